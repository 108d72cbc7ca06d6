/- Texts of the proof, joined: Types WireM WireM2 DigestM DigestM2 CipherM CipherM2 DiskM LogR LogM. Names of our own are shortened by program; the long ones stand in wip/. -/
import Derived.Test.YtcdajbmgoafnkaaGreatProg
import Derived.Test.YtcdajbmgoafnkaaGreatQrA5
import Derived.KernelRfl
import Derived.Test.YtcdajbmgoafnkaaGreatQrWireP
import Derived.Test.YtcdajbmgoafnkaaGreatQrWireP2
import Derived.Test.YtcdajbmgoafnkaaGreatQrDigestP3
import Derived.Test.YtcdajbmgoafnkaaGreatQrDigestP4
import Derived.Test.YtcdajbmgoafnkaaGreatQrCipherP4
import Derived.Test.YtcdajbmgoafnkaaGreatQrDiskP3
import Derived.RecoverIn
import Derived.Tactics
import Derived.Tactics2
import Derived.TacticsInMore
import Derived.RegionIn
import Derived.Laws.Pointers
import Derived.Test.YtcdajbmgoafnkaaGreatQrLogP7
set_option maxRecDepth 100000
namespace Go.AI
abbrev ZO := Option Unit
abbrev ZK := Jhi → ASt → ZO
end Go.AI
namespace Go.AI
open Go
def gam  : Gam := [
 none,
 some ⟨.func, 1, none, false⟩,
 some ⟨.other, 1, some (.int .i64), false⟩,
 some ⟨.other, 1, some (.int .i64), false⟩,
 some ⟨.other, 1, some .bool, false⟩,
 some ⟨.other, 1, some (.int .u8), false⟩,
 some ⟨.other, 1, some (.int .u8), false⟩,
 some ⟨(.struct [(0, 2), (1, 3), (2, 4), (3, 6)]), 4, some (.pair (.int .i64) (.pair (.int .i64) (.pair .bool (.pair (.int .u8) .unit)))), false⟩,
 some ⟨(.struct [(0, 2), (1, 3), (2, 4), (3, 6)]), 4, some (.pair (.int .i64) (.pair (.int .i64) (.pair .bool (.pair (.int .u8) .unit)))), false⟩,
 some ⟨.other, 1, some .str, false⟩,
 some ⟨.other, 1, some .str, false⟩,
 some ⟨.other, 1, some .str, false⟩,
 some ⟨.other, 1, some (.int .u64), false⟩,
 some ⟨(.struct [(0, 9), (1, 12)]), 2, some (.pair .str (.pair (.int .u64) .unit)), false⟩,
 some ⟨(.struct [(0, 9), (1, 12)]), 2, some (.pair .str (.pair (.int .u64) .unit)), false⟩,
 some ⟨(.ptr 250), 1, none, false⟩,
 some ⟨(.ptr 253), 1, none, false⟩,
 some ⟨(.ptr 262), 1, none, false⟩,
 some ⟨(.struct [(0, 17)]), 1, none, false⟩,
 some ⟨(.struct [(0, 17)]), 1, none, false⟩,
 some ⟨.other, 1, none, false⟩,
 some ⟨.other, 1, some (.int .i32), false⟩,
 some ⟨(.struct [(0, 3), (1, 3), (2, 3)]), 3, some (.pair (.int .i64) (.pair (.int .i64) (.pair (.int .i64) .unit))), true⟩,
 some ⟨(.struct [(0, 3), (1, 3), (2, 3)]), 3, some (.pair (.int .i64) (.pair (.int .i64) (.pair (.int .i64) .unit))), true⟩,
 some ⟨(.slice 5), 1, some (.slc (.int .u8)), false⟩,
 some ⟨(.slice 66), 1, some (.slc (.pair (.int .i64) (.pair (.slc (.int .u8)) .unit))), false⟩,
 some ⟨.func, 1, none, false⟩,
 some ⟨.func, 1, none, false⟩,
 some ⟨(.slice 70), 1, some (.slc (.pair (.int .i64) (.pair (.int .i64) (.pair (.slc (.arr 16 (.int .u8))) .unit)))), false⟩,
 some ⟨.other, 1, some (.int .i64), false⟩,
 none,
 some ⟨.func, 1, none, false⟩,
 none,
 some ⟨.func, 1, none, false⟩,
 some ⟨.func, 1, none, false⟩,
 some ⟨.func, 1, none, false⟩,
 some ⟨(.slice 93), 1, some (.slc (.arr 16 (.int .u8))), false⟩,
 some ⟨(.slice 155), 1, some (.slc (.pair (.int .i64) (.pair (.arr 16 (.int .u8)) .unit))), false⟩,
 some ⟨(.struct [(0, 36), (1, 37)]), 2, some (.pair (.slc (.arr 16 (.int .u8))) (.pair (.slc (.pair (.int .i64) (.pair (.arr 16 (.int .u8)) .unit))) .unit)), false⟩,
 some ⟨(.struct [(0, 36), (1, 37)]), 2, some (.pair (.slc (.arr 16 (.int .u8))) (.pair (.slc (.pair (.int .i64) (.pair (.arr 16 (.int .u8)) .unit))) .unit)), false⟩,
 some ⟨.func, 1, none, false⟩,
 some ⟨(.slice 25), 1, some (.slc (.slc (.pair (.int .i64) (.pair (.slc (.int .u8)) .unit)))), false⟩,
 none,
 some ⟨.func, 1, none, false⟩,
 none,
 some ⟨.func, 1, none, false⟩,
 some ⟨.func, 1, none, false⟩,
 some ⟨.func, 1, none, false⟩,
 some ⟨.func, 1, none, false⟩,
 none,
 some ⟨.func, 1, none, false⟩,
 some ⟨(.slice 24), 1, some (.slc (.slc (.int .u8))), false⟩,
 none,
 some ⟨.func, 1, none, false⟩,
 none,
 some ⟨.func, 1, none, false⟩,
 some ⟨.func, 1, none, false⟩,
 some ⟨(.slice 3), 1, some (.slc (.int .i64)), false⟩,
 some ⟨(.struct [(0, 5), (1, 57)]), 2, some (.pair (.int .u8) (.pair (.slc (.int .i64)) .unit)), false⟩,
 some ⟨(.struct [(0, 5), (1, 57)]), 2, some (.pair (.int .u8) (.pair (.slc (.int .i64)) .unit)), false⟩,
 none,
 some ⟨.func, 1, none, false⟩,
 none,
 some ⟨.func, 1, none, false⟩,
 some ⟨.func, 1, none, false⟩,
 some ⟨(.struct [(0, 3), (1, 24)]), 2, some (.pair (.int .i64) (.pair (.slc (.int .u8)) .unit)), false⟩,
 some ⟨(.struct [(0, 3), (1, 24)]), 2, some (.pair (.int .i64) (.pair (.slc (.int .u8)) .unit)), false⟩,
 none,
 some ⟨.func, 1, none, false⟩,
 some ⟨(.struct [(0, 3), (1, 3), (2, 36)]), 3, some (.pair (.int .i64) (.pair (.int .i64) (.pair (.slc (.arr 16 (.int .u8))) .unit))), false⟩,
 some ⟨(.struct [(0, 3), (1, 3), (2, 36)]), 3, some (.pair (.int .i64) (.pair (.int .i64) (.pair (.slc (.arr 16 (.int .u8))) .unit))), false⟩,
 some ⟨.func, 1, none, false⟩,
 some ⟨.func, 1, none, false⟩,
 some ⟨.func, 1, none, false⟩,
 some ⟨.func, 1, none, false⟩,
 some ⟨.func, 1, none, false⟩,
 some ⟨.func, 1, none, false⟩,
 some ⟨.func, 1, none, false⟩,
 some ⟨.func, 1, none, false⟩,
 some ⟨.func, 1, none, false⟩,
 some ⟨.func, 1, none, false⟩,
 none,
 some ⟨.func, 1, none, false⟩,
 none,
 some ⟨.func, 1, none, false⟩,
 none,
 some ⟨.func, 1, none, false⟩,
 some ⟨.func, 1, none, false⟩,
 some ⟨.func, 1, none, false⟩,
 some ⟨.func, 1, none, false⟩,
 none,
 some ⟨.func, 1, none, false⟩,
 some ⟨(.array 16 5), 16, some (.arr 16 (.int .u8)), true⟩,
 some ⟨(.array 16 5), 16, some (.arr 16 (.int .u8)), true⟩,
 some ⟨.func, 1, none, false⟩,
 none,
 some ⟨.func, 1, none, false⟩,
 some ⟨.func, 1, none, false⟩,
 some ⟨(.array 32 5), 32, some (.arr 32 (.int .u8)), true⟩,
 some ⟨(.array 32 5), 32, some (.arr 32 (.int .u8)), true⟩,
 none,
 some ⟨.func, 1, none, false⟩,
 some ⟨.func, 1, none, false⟩,
 some ⟨.func, 1, none, false⟩,
 some ⟨.func, 1, none, false⟩,
 some ⟨.func, 1, none, false⟩,
 some ⟨.func, 1, none, false⟩,
 some ⟨.func, 1, none, false⟩,
 some ⟨(.array 2 107), 2, none, false⟩,
 some ⟨.func, 1, none, false⟩,
 some ⟨(.ptr 39), 1, none, false⟩,
 some ⟨.func, 1, none, false⟩,
 some ⟨.func, 1, none, false⟩,
 some ⟨.func, 1, none, false⟩,
 some ⟨.func, 1, none, false⟩,
 some ⟨.func, 1, none, false⟩,
 some ⟨.func, 1, none, false⟩,
 some ⟨.func, 1, none, false⟩,
 some ⟨.func, 1, none, false⟩,
 some ⟨.func, 1, none, false⟩,
 some ⟨.func, 1, none, false⟩,
 some ⟨.func, 1, none, false⟩,
 some ⟨.func, 1, none, false⟩,
 some ⟨.func, 1, none, false⟩,
 some ⟨.func, 1, none, false⟩,
 some ⟨.func, 1, none, false⟩,
 some ⟨.func, 1, none, false⟩,
 some ⟨.func, 1, none, false⟩,
 some ⟨(.ptr 24), 1, none, false⟩,
 some ⟨.func, 1, none, false⟩,
 some ⟨(.ptr 3), 1, none, false⟩,
 some ⟨.func, 1, none, false⟩,
 some ⟨.func, 1, none, false⟩,
 some ⟨.func, 1, none, false⟩,
 none,
 some ⟨.func, 1, none, false⟩,
 none,
 some ⟨.func, 1, none, false⟩,
 none,
 some ⟨.func, 1, none, false⟩,
 some ⟨.func, 1, none, false⟩,
 none,
 some ⟨.func, 1, none, false⟩,
 some ⟨.func, 1, none, false⟩,
 some ⟨.func, 1, none, false⟩,
 some ⟨.func, 1, none, false⟩,
 some ⟨(.ptr 148), 1, none, false⟩,
 some ⟨(.struct [(0, 36)]), 1, some (.pair (.slc (.arr 16 (.int .u8))) .unit), false⟩,
 some ⟨(.struct [(0, 36)]), 1, some (.pair (.slc (.arr 16 (.int .u8))) .unit), false⟩,
 none,
 some ⟨.func, 1, none, false⟩,
 some ⟨.func, 1, none, false⟩,
 some ⟨.func, 1, none, false⟩,
 some ⟨.func, 1, none, false⟩,
 some ⟨(.struct [(0, 3), (1, 93)]), 17, some (.pair (.int .i64) (.pair (.arr 16 (.int .u8)) .unit)), true⟩,
 some ⟨(.struct [(0, 3), (1, 93)]), 17, some (.pair (.int .i64) (.pair (.arr 16 (.int .u8)) .unit)), true⟩,
 some ⟨.func, 1, none, false⟩,
 some ⟨.func, 1, none, false⟩,
 some ⟨(.map 3 36), 1, none, true⟩,
 none,
 some ⟨.func, 1, none, false⟩,
 some ⟨.func, 1, none, false⟩,
 some ⟨.func, 1, none, false⟩,
 some ⟨.func, 1, none, false⟩,
 some ⟨.func, 1, none, false⟩,
 some ⟨(.struct [(0, 164)]), 1, none, false⟩,
 some ⟨(.struct [(0, 164)]), 1, none, false⟩,
 some ⟨.func, 1, none, false⟩,
 some ⟨.func, 1, none, false⟩,
 some ⟨.func, 1, none, false⟩,
 some ⟨.func, 1, none, false⟩,
 some ⟨.func, 1, none, false⟩,
 some ⟨.func, 1, none, false⟩,
 some ⟨.other, 1, some (.int .u32), false⟩,
 some ⟨.func, 1, none, false⟩,
 some ⟨.func, 1, none, false⟩,
 some ⟨.func, 1, none, false⟩,
 none,
 some ⟨.func, 1, none, false⟩,
 some ⟨.other, 1, some (.int .u64), false⟩,
 none,
 some ⟨.func, 1, none, false⟩,
 some ⟨.func, 1, none, false⟩,
 none,
 some ⟨.func, 1, none, false⟩,
 some ⟨(.struct []), 0, none, false⟩,
 some ⟨(.struct []), 0, none, false⟩,
 none,
 some ⟨.func, 1, none, false⟩,
 some ⟨.func, 1, none, false⟩,
 some ⟨.func, 1, none, false⟩,
 some ⟨.func, 1, none, false⟩,
 some ⟨(.array 64 5), 64, some (.arr 64 (.int .u8)), true⟩,
 some ⟨.func, 1, none, false⟩,
 some ⟨(.slice 173), 1, some (.slc (.int .u32)), false⟩,
 some ⟨.func, 1, none, false⟩,
 some ⟨.func, 1, none, false⟩,
 some ⟨.func, 1, none, false⟩,
 some ⟨.func, 1, none, false⟩,
 some ⟨(.array 8 173), 8, some (.arr 8 (.int .u32)), true⟩,
 some ⟨(.struct [(0, 199), (8, 24), (9, 3)]), 10, some (.pair (.arr 8 (.int .u32)) (.pair (.slc (.int .u8)) (.pair (.int .i64) .unit))), false⟩,
 some ⟨(.struct [(0, 199), (8, 24), (9, 3)]), 10, some (.pair (.arr 8 (.int .u32)) (.pair (.slc (.int .u8)) (.pair (.int .i64) .unit))), false⟩,
 some ⟨.func, 1, none, false⟩,
 some ⟨.func, 1, none, false⟩,
 some ⟨(.array 16 173), 16, some (.arr 16 (.int .u32)), true⟩,
 some ⟨(.array 16 173), 16, some (.arr 16 (.int .u32)), true⟩,
 some ⟨.func, 1, none, false⟩,
 some ⟨.func, 1, none, false⟩,
 some ⟨.func, 1, none, false⟩,
 some ⟨.func, 1, none, false⟩,
 some ⟨.func, 1, none, false⟩,
 none,
 some ⟨.func, 1, none, false⟩,
 some ⟨.func, 1, none, false⟩,
 some ⟨.other, 1, some (.int .u64), false⟩,
 some ⟨.other, 1, some (.int .u32), false⟩,
 some ⟨(.array 8 215), 8, some (.arr 8 (.int .u32)), true⟩,
 some ⟨(.array 8 215), 8, some (.arr 8 (.int .u32)), true⟩,
 some ⟨.func, 1, none, false⟩,
 some ⟨(.ptr 205), 1, none, false⟩,
 some ⟨.func, 1, none, false⟩,
 some ⟨.func, 1, none, false⟩,
 some ⟨.func, 1, none, false⟩,
 some ⟨.func, 1, none, false⟩,
 some ⟨.func, 1, none, false⟩,
 some ⟨.func, 1, none, false⟩,
 some ⟨.func, 1, none, false⟩,
 some ⟨.func, 1, none, false⟩,
 some ⟨.func, 1, none, false⟩,
 some ⟨.func, 1, none, false⟩,
 some ⟨.func, 1, none, false⟩,
 some ⟨.func, 1, none, false⟩,
 some ⟨.func, 1, none, false⟩,
 some ⟨.func, 1, none, false⟩,
 some ⟨.func, 1, none, false⟩,
 some ⟨.func, 1, none, false⟩,
 some ⟨(.struct [(0, 3), (1, 3), (2, 3), (3, 3)]), 4, some (.pair (.int .i64) (.pair (.int .i64) (.pair (.int .i64) (.pair (.int .i64) .unit)))), true⟩,
 some ⟨(.array 4 236), 16, some (.arr 4 (.pair (.int .i64) (.pair (.int .i64) (.pair (.int .i64) (.pair (.int .i64) .unit))))), true⟩,
 some ⟨(.array 256 173), 256, some (.arr 256 (.int .u32)), true⟩,
 some ⟨.func, 1, none, false⟩,
 some ⟨(.array 64 173), 64, some (.arr 64 (.int .u32)), true⟩,
 some ⟨.func, 1, none, false⟩,
 some ⟨.func, 1, none, false⟩,
 some ⟨.func, 1, none, false⟩,
 some ⟨(.array 16 215), 16, some (.arr 16 (.int .u32)), true⟩,
 some ⟨(.array 64 215), 64, some (.arr 64 (.int .u32)), true⟩,
 some ⟨.func, 1, none, false⟩,
 some ⟨.func, 1, none, false⟩,
 some ⟨.func, 1, none, false⟩,
 some ⟨(.struct [(0, 17), (1, 17), (2, 17), (3, 9)]), 4, none, false⟩,
 some ⟨(.struct [(0, 17), (1, 17), (2, 17), (3, 9)]), 4, none, false⟩,
 some ⟨(.array 0 16), 0, none, false⟩,
 some ⟨(.struct [(0, 251)]), 0, none, false⟩,
 some ⟨(.struct [(0, 251)]), 0, none, false⟩,
 some ⟨.func, 1, none, false⟩,
 some ⟨.other, 1, some (.int .u8), false⟩,
 some ⟨.other, 1, some (.int .u8), false⟩,
 some ⟨.func, 1, none, false⟩,
 some ⟨(.ptr 5), 1, none, false⟩,
 some ⟨.other, 1, some (.int .i32), false⟩,
 some ⟨.other, 1, some (.int .i32), false⟩,
 some ⟨(.struct [(0, 12), (1, 12), (2, 173), (3, 255), (4, 5), (5, 5), (6, 256), (7, 257), (8, 258), (9, 259), (10, 260)]), 11, none, false⟩,
 some ⟨(.struct [(0, 12), (1, 12), (2, 173), (3, 255), (4, 5), (5, 5), (6, 256), (7, 257), (8, 258), (9, 259), (10, 260)]), 11, none, false⟩,
 some ⟨.other, 1, none, false⟩]
theorem Qpn  : gamB Go.Proofs.Tryz.prog gam = true := by kernel_rfl
theorem Qpo  : Qj7 Go.Proofs.Tryz.prog = true := by kernel_rfl
theorem Qpp  : Qbm Go.Proofs.Tryz.prog = true := by kernel_rfl
theorem Jao  : Go.Proofs.Tryz.prog.follows .mixedOrders = true := by kernel_rfl
theorem bkN  : K6k Go.Proofs.Tryz.prog := Qbl Qpo
theorem bkG  : Jou Go.Proofs.Tryz.prog := K6r Qpp
theorem bkT  : Jcv Go.Proofs.Tryz.prog gam := Qlj Qpn
def bkY (l : List (FuncId × Orc)) : Book := { Γ := gam, orc := Jbc l, hint := Jav [] }
def bkZ (l : List (FuncId × Orc)) : Jbu Unit := { toBook := bkY l, lo := Jcf [], need := Jaw [] }
theorem bkO (l : List (FuncId × Orc)) (F : Nat) : Jhk Go.Proofs.Tryz.prog (bkZ l) F := Ja0 (l := []) rfl fz
end Go.AI
namespace Go.AI
open Go
open Go.Proofs.Tryz (prog)
set_option linter.unusedVariables false
@[reducible] def Jsn  : List PM := [.d (.int .u64)]
def Jye  : Orc := Orc.of Jsn true 0 fun x => (Joz x.1, [.d (.int .i64) (Jud x.1)])
def Jux  : List (FuncId × Orc) := []
theorem Kfj (F : Nat) (x : Jaz Jsn) (kend : List BV → ZO) : Jam prog (bkZ Jux) F 20 163 (Jae Jsn x) [.d (.int .i64)] kend = J4e F x.1 none (fun y0 => kend [BV.d (.int .i64) y0]) := by kernel_rfl
theorem Jzu  : Jad prog 163 Jye := Jap (B0 := bkY Jux) bkN bkG Jao bkT Kfj (Jac fz) (by kernel_rfl) (fun _ => rfl) (bkO _) (fun x h => (J7h x.1 h).elim fun F hF => ⟨F, fun kend => hF none _⟩)
@[reducible] def Juy  : List PM := [.d (.int .u8)]
def J2q  : Orc := Orc.of Juy true 0 fun x => (true, [.d (.int .i64) (Jrr x.1)])
def Jyf  : List (FuncId × Orc) := []
theorem Knp (F : Nat) (x : Jaz Juy) (kend : List BV → ZO) : Jam prog (bkZ Jyf) F 20 147 (Jae Juy x) [.d (.int .i64)] kend = Ka6 F x.1 none (fun y0 => kend [BV.d (.int .i64) y0]) := by kernel_rfl
theorem J2r  : Jad prog 147 J2q := Jap (B0 := bkY Jyf) bkN bkG Jao bkT Knp (Jac fz) (by kernel_rfl) (fun _ => rfl) (bkO _) (fun x _ => (Kbh x.1).elim fun F hF => ⟨F, fun kend => hF none _⟩)
@[reducible] def Jzv  : List PM := [.d (.int .u64)]
def J6l  : Orc := Orc.of Jzv true 0 fun x => (Jwj x.1, [.d (.int .i64) (Jwk x.1)])
def J2s  : List (FuncId × Orc) := [(163, Jye)]
theorem Ksv (F : Nat) (x : Jaz Jzv) (kend : List BV → ZO) : Jam prog (bkZ J2s) F 20 148 (Jae Jzv x) [.d (.int .i64)] kend = Klx F x.1 none (fun y0 => kend [BV.d (.int .i64) y0]) := by kernel_rfl
theorem J4w  : Jad prog 148 J6l := Jap (B0 := bkY J2s) bkN bkG Jao bkT Ksv (Jac (fa Jzu fz)) (by kernel_rfl) (fun _ => rfl) (bkO _) (fun x h => (Kff x.1 h).elim fun F hF => ⟨F, fun kend => hF none _⟩)
@[reducible] def Jg1  : List PM := [.d (.int .u8)]
def Jj2  : Orc := Orc.of Jg1 true 0 fun x => (true, [.d (.int .i64) (Ja4 x.1)])
def Jjx  : List (FuncId × Orc) := [(147, J2q)]
theorem Jts (F : Nat) (x : Jaz Jg1) (kend : List BV → ZO) : Jam prog (bkZ Jjx) F 20 118 (Jae Jg1 x) [.d (.int .i64)] kend = Jju F x.1 none (fun y0 => kend [BV.d (.int .i64) y0]) := by kernel_rfl
theorem Jns  : Jad prog 118 Jj2 := Jap (B0 := bkY Jjx) bkN bkG Jao bkT Jts (Jac (fa J2r fz)) (by kernel_rfl) (fun _ => rfl) (bkO _) (fun x _ => (Jqv x.1).elim fun F hF => ⟨F, fun kend => hF none _⟩)
@[reducible] def Jps  : List PM := [.d (.int .i64)]
def Juz  : Orc := Orc.of Jps true 0 fun x => (true, [.d (.int .i64) (Jcb x.1)])
def Js6  : List (FuncId × Orc) := []
theorem Kbs (F : Nat) (x : Jaz Jps) (kend : List BV → ZO) : Jam prog (bkZ Js6) F 20 137 (Jae Jps x) [.d (.int .i64)] kend = Ka7 F x.1 none (fun y0 => kend [BV.d (.int .i64) y0]) := by kernel_rfl
theorem Jx2  : Jad prog 137 Juz := Jap (B0 := bkY Js6) bkN bkG Jao bkT Kbs (Jac fz) (by kernel_rfl) (fun _ => rfl) (bkO _) (fun x _ => (J4l x.1).elim fun F hF => ⟨F, fun kend => hF none _⟩)
@[reducible] def Jnt  : List PM := [.d (.int .i64)]
def Jlu  : Orc := Orc.of Jnt true 0 fun x => (Jd5 x.1, [.d (.int .i64) (Jbo x.1)])
def Jqy  : List (FuncId × Orc) := [(148, J6l)]
theorem J7o (F : Nat) (x : Jaz Jnt) (kend : List BV → ZO) : Jam prog (bkZ Jqy) F 20 119 (Jae Jnt x) [.d (.int .i64)] kend = Juk F x.1 none (fun y0 => kend [BV.d (.int .i64) y0]) := by kernel_rfl
theorem Jll  : Jad prog 119 Jlu := Jap (B0 := bkY Jqy) bkN bkG Jao bkT J7o (Jac (fa J4w fz)) (by kernel_rfl) (fun _ => rfl) (bkO _) (fun x h => (J2g x.1 h).elim fun F hF => ⟨F, fun kend => hF none _⟩)
@[reducible] def Jso  : List PM := [.d (.slc (.int .u8))]
def Jgh  : Orc := Orc.of Jso true 1 fun x => (Jbq x.1, [.o 5 (.int .u8) (Jcj x.1)])
def Ju0  : List (FuncId × Orc) := []
theorem Kfk (F : Nat) (x : Jaz Jso) (kend : List BV → ZO) : Jam prog (bkZ Ju0) F 20 100 (Jae Jso x) [.o 5 (.int .u8)] kend = Kio F x.1 none J67 (fun y0 => kend [BV.o 5 (.int .u8) y0]) := by kernel_rfl
theorem Jed  : Jad prog 100 Jgh := Jap (B0 := bkY Ju0) bkN bkG Jao bkT Kfk (Jac fz) (by kernel_rfl) (fun _ => rfl) (bkO _) (fun x h => (J7i x.1 h).elim fun F hF => ⟨F, fun kend => hF none J67 Kqv _⟩)
@[reducible] def Jzw  : List PM := [.o 5 (.int .u8), .d (.int .i64)]
def Ju1  : Orc := Orc.of Jzw true 1 fun x => (Jmq x.1 x.2.1, [.o 5 (.int .u8) (Jp7 x.1 x.2.1)])
@[reducible] def Jf5  : Tpl := { cur := ⟨[(0, .row 0), (0, .var (.int .i64)), (5, .var (.int .i64))], 32⟩, stk := [⟨[], 0⟩], heap := [.row 5 (.int .u8) false] }
def Knq  : List (FuncId × Orc) := [(119, Jlu), (137, Juz)]
def Jyg  : Book := { Γ := gam, orc := Jbc Knq, hint := Jav [(99, { keep := some [0, 1, 7], keeps := [(6, [0, 1, 7])], own := [], dat := [], stk := [] })] }
def Knr (F : Nat) (nx : Jf5.T → ZO) (kq : ZK) (x : Jf5.T) : ZO := Jr5 F none (fun n i dst => nx (((), (n, (i, ()))), (((), ()), (dst, ())))) (fun y0 y1 y2 => kq (.exit 0) (Jf5.inst (((), (y0, (y1, ()))), (((), ()), (y2, ()))))) x.1.2.1 x.1.2.2.1 x.2.2.1
def Kns (F m : Nat) (x : Jf5.T) (kq : ZK) : ZO := Ji9 F none (fun y0 y1 y2 => kq (.exit 0) (Jf5.inst (((), (y0, (y1, ()))), (((), ()), (y2, ()))))) m x.1.2.1 x.1.2.2.1 x.2.2.1
def Kbt (F : Nat) : List (LoE Unit) := [⟨99, 6, LO.of Jf5 (Kns F F)⟩]
def Jsp (F : Nat) : Jbu Unit := { toBook := Jyg, lo := Jcf (Kbt F), need := Jaw [] }
theorem J7p (F : Nat) : Jbn prog (Jsp F) F 99 0 6 Jf5 (Knr F) := fun d x KQ => by kernel_rfl
theorem Knt (F : Nat) : Jhk prog (Jsp F) F := Ja0 (l := Kbt F) rfl (fa (Jal 0 (by kernel_rfl) (by kernel_rfl) (Jah (J7p F) (fun _ _ => rfl) (fun _ _ _ _ => rfl))) fz)
theorem Ksw (F : Nat) (x : Jaz Jzw) (kend : List BV → ZO) : Jam prog (Jsp F) F 20 99 (Jae Jzw x) [.o 5 (.int .u8)] kend = Kly F x.1 x.2.1 none (fun y0 => kend [BV.o 5 (.int .u8) y0]) := by kernel_rfl
theorem Jqz  : Jad prog 99 Ju1 := Jap (B0 := Jyg) bkN bkG Jao bkT Ksw (Jac (fa Jll (fa Jx2 fz))) (by kernel_rfl) (fun _ => rfl) Knt (fun x h => (Kfg x.1 x.2.1 h).elim fun F hF => ⟨F, fun kend => hF none _⟩)
@[reducible] def Jpt  : List PM := [.d (.slc (.int .u8)), .d (.int .i64)]
def Ju2  : Orc := Orc.of Jpt true 1 fun x => (Jhm x.1 x.2.1, [.o 5 (.int .u8) (Jl4 x.1 x.2.1)])
def Js7  : List (FuncId × Orc) := [(99, Ju1), (100, Jgh)]
theorem Kbu (F : Nat) (x : Jaz Jpt) (kend : List BV → ZO) : Jam prog (bkZ Js7) F 20 51 (Jae Jpt x) [.o 5 (.int .u8)] kend = Jzm F x.1 x.2.1 none (fun y0 => kend [BV.o 5 (.int .u8) y0]) := by kernel_rfl
theorem Jx3  : Jad prog 51 Ju2 := Jap (B0 := bkY Js7) bkN bkG Jao bkT Kbu (Jac (fa Jqz (fa Jed fz))) (by kernel_rfl) (fun _ => rfl) (bkO _) (fun x h => (J4n x.1 x.2.1 h).elim fun F hF => ⟨F, fun kend => hF none _⟩)
@[reducible] def Jsq  : List PM := [.d (.slc (.int .u8))]
def Ju3  : Orc := Orc.of Jsq false 0 fun x => (Jfh x.1, [.d (.int .i64) (Jas x.1), .d (.slc (.int .u8)) (Jaq x.1), .d (.int .i64) (Jbk x.1)])
@[reducible] def Jf6  : Tpl := { cur := ⟨[(0, .var (.slc (.int .u8))), (4, .var (.int .i64)), (0, .var (.int .i64)), (26, .var (.slc (.int .u8))), (0, .var (.int .i64)), (0, .var (.int .i64))], 23⟩, stk := [⟨[], 0⟩], heap := [] }
def Knu  : List (FuncId × Orc) := [(100, Jgh), (118, Jj2), (119, Jlu)]
def Jyh  : Book := { Γ := gam, orc := Jbc Knu, hint := Jav [(72, { keep := some [0, 5, 6, 33, 34, 35], keeps := [(10, [0, 5, 6, 33, 34, 35])], own := [], dat := [], stk := [] })] }
def Knv (F : Nat) (nx : Jf6.T → ZO) (kq : ZK) (x : Jf6.T) : ZO := Jr6 F none (fun src k n s33 s34 s35 => nx ((src, (k, (n, (s33, (s34, (s35, ())))))), (((), ()), ()))) (fun y0 y1 y2 y3 y4 y5 => kq (.exit 0) (Jf6.inst ((y0, (y1, (y2, (y3, (y4, (y5, ())))))), (((), ()), ())))) x.1.1 x.1.2.1 x.1.2.2.1 x.1.2.2.2.1 x.1.2.2.2.2.1 x.1.2.2.2.2.2.1
def Knw (F m : Nat) (x : Jf6.T) (kq : ZK) : ZO := Jja F none (fun y0 y1 y2 y3 y4 y5 => kq (.exit 0) (Jf6.inst ((y0, (y1, (y2, (y3, (y4, (y5, ())))))), (((), ()), ())))) m x.1.1 x.1.2.1 x.1.2.2.1 x.1.2.2.2.1 x.1.2.2.2.2.1 x.1.2.2.2.2.2.1
def Kbv (F : Nat) : List (LoE Unit) := [⟨72, 10, LO.of Jf6 (Knw F F)⟩]
def Jsr (F : Nat) : Jbu Unit := { toBook := Jyh, lo := Jcf (Kbv F), need := Jaw [] }
theorem J7q (F : Nat) : Jbn prog (Jsr F) F 72 0 10 Jf6 (Knv F) := fun d x KQ => by kernel_rfl
theorem Knx (F : Nat) : Jhk prog (Jsr F) F := Ja0 (l := Kbv F) rfl (fa (Jal 0 (by kernel_rfl) (by kernel_rfl) (Jah (J7q F) (fun _ _ => rfl) (fun _ _ _ _ => rfl))) fz)
theorem Ksx (F : Nat) (x : Jaz Jsq) (kend : List BV → ZO) : Jam prog (Jsr F) F 20 72 (Jae Jsq x) [.d (.int .i64), .d (.slc (.int .u8)), .d (.int .i64)] kend = Klz F x.1 none (fun y0 y1 y2 => kend [BV.d (.int .i64) y0, BV.d (.slc (.int .u8)) y1, BV.d (.int .i64) y2]) := by kernel_rfl
theorem Jq0  : Jad prog 72 Ju3 := Jap (B0 := Jyh) bkN bkG Jao bkT Ksx (Jac (fa Jed (fa Jns (fa Jll fz)))) (by kernel_rfl) (fun _ => rfl) Knx (fun x h => (Kfh x.1 h).elim fun F hF => ⟨F, fun kend => hF none _⟩)
@[reducible] def Jpu  : List PM := [.d (.int .i64)]
def Jnu  : Orc := Orc.of Jpu true 0 fun x => (Jc1 x.1, [.d (.int .i64) (Jc2 x.1)])
@[reducible] def Jdt  : Tpl := { cur := ⟨[(0, .var (.int .i64)), (2, .var (.int .i64)), (0, .var (.int .i64))], 8⟩, stk := [⟨[], 0⟩], heap := [] }
def J7r  : List (FuncId × Orc) := []
def Jq1  : Book := { Γ := gam, orc := Jbc J7r, hint := Jav [(113, { keep := some [0, 3, 4], keeps := [(3, [0, 3, 4])], own := [], dat := [], stk := [] })] }
def J7s (F : Nat) (nx : Jdt.T → ZO) (kq : ZK) (x : Jdt.T) : ZO := Jkw F none (fun n p i => nx ((n, (p, (i, ()))), (((), ()), ()))) (fun y0 y1 y2 => kq (.exit 0) (Jdt.inst ((y0, (y1, (y2, ()))), (((), ()), ())))) x.1.1 x.1.2.1 x.1.2.2.1
def J7t (F m : Nat) (x : Jdt.T) (kq : ZK) : ZO := Jfm F none (fun y0 y1 y2 => kq (.exit 0) (Jdt.inst ((y0, (y1, (y2, ()))), (((), ()), ())))) m x.1.1 x.1.2.1 x.1.2.2.1
def Jyi (F : Nat) : List (LoE Unit) := [⟨113, 3, LO.of Jdt (J7t F F)⟩]
def Jlv (F : Nat) : Jbu Unit := { toBook := Jq1, lo := Jcf (Jyi F), need := Jaw [] }
theorem Jzx (F : Nat) : Jbn prog (Jlv F) F 113 0 3 Jdt (J7s F) := fun d x KQ => by kernel_rfl
theorem J7u (F : Nat) : Jhk prog (Jlv F) F := Ja0 (l := Jyi F) rfl (fa (Jal 0 (by kernel_rfl) (by kernel_rfl) (Jah (Jzx F) (fun _ _ => rfl) (fun _ _ _ _ => rfl))) fz)
theorem Kbw (F : Nat) (x : Jaz Jpu) (kend : List BV → ZO) : Jam prog (Jlv F) F 20 113 (Jae Jpu x) [.d (.int .i64)] kend = Ka8 F x.1 none (fun y0 => kend [BV.d (.int .i64) y0]) := by kernel_rfl
theorem Jly  : Jad prog 113 Jnu := Jap (B0 := Jq1) bkN bkG Jao bkT Kbw (Jac fz) (by kernel_rfl) (fun _ => rfl) J7u (fun x h => (J4m x.1 h).elim fun F hF => ⟨F, fun kend => hF none _⟩)
@[reducible] def Jnv  : List PM := [.d (.int .i64)]
def Js8  : Orc := Orc.of Jnv true 0 fun x => (true, [.d (.int .i64) (Jpp x.1)])
def Jq2  : List (FuncId × Orc) := []
theorem J7v (F : Nat) (x : Jaz Jnv) (kend : List BV → ZO) : Jam prog (bkZ Jq2) F 20 111 (Jae Jnv x) [.d (.int .i64)] kend = J6g F x.1 none (fun y0 => kend [BV.d (.int .i64) y0]) := by kernel_rfl
theorem Ju4  : Jad prog 111 Js8 := Jap (B0 := bkY Jq2) bkN bkG Jao bkT J7v (Jac fz) (by kernel_rfl) (fun _ => rfl) (bkO _) (fun x _ => (J2f x.1).elim fun F hF => ⟨F, fun kend => hF none _⟩)
@[reducible] def Jss  : List PM := [.d (.int .i64)]
def Jyj  : Orc := Orc.of Jss true 0 fun x => (true, [.d (.int .i64) (Jlc x.1)])
@[reducible] def Jee  : Tpl := { cur := ⟨[(0, .var (.int .i64)), (2, .var (.int .i64))], 11⟩, stk := [⟨[], 0⟩], heap := [] }
def Kbx  : List (FuncId × Orc) := [(111, Js8), (113, Jnu)]
def Js9  : Book := { Γ := gam, orc := Jbc Kbx, hint := Jav [(112, { keep := some [0, 3], keeps := [(2, [0, 3])], own := [], dat := [], stk := [] })] }
def Kby (F : Nat) (nx : Jee.T → ZO) (kq : ZK) (x : Jee.T) : ZO := Jr7 F none (fun n k => nx ((n, (k, ())), (((), ()), ()))) (fun y0 y1 => kq (.exit 0) (Jee.inst ((y0, (y1, ())), (((), ()), ())))) x.1.1 x.1.2.1
def Kbz (F m : Nat) (x : Jee.T) (kq : ZK) : ZO := Je1 F none (fun y0 y1 => kq (.exit 0) (Jee.inst ((y0, (y1, ())), (((), ()), ())))) m x.1.1 x.1.2.1
def J2t (F : Nat) : List (LoE Unit) := [⟨112, 2, LO.of Jee (Kbz F F)⟩]
def Jnw (F : Nat) : Jbu Unit := { toBook := Js9, lo := Jcf (J2t F), need := Jaw [] }
theorem J2u (F : Nat) : Jbn prog (Jnw F) F 112 0 2 Jee (Kby F) := fun d x KQ => by kernel_rfl
theorem Kb0 (F : Nat) : Jhk prog (Jnw F) F := Ja0 (l := J2t F) rfl (fa (Jal 0 (by kernel_rfl) (by kernel_rfl) (Jah (J2u F) (fun _ _ => rfl) (fun _ _ _ _ => rfl))) fz)
theorem Kfl (F : Nat) (x : Jaz Jss) (kend : List BV → ZO) : Jam prog (Jnw F) F 20 112 (Jae Jss x) [.d (.int .i64)] kend = J4f F x.1 none (fun y0 => kend [BV.d (.int .i64) y0]) := by kernel_rfl
theorem Jzy  : Jad prog 112 Jyj := Jap (B0 := Js9) bkN bkG Jao bkT Kfl (Jac (fa Ju4 (fa Jly fz))) (by kernel_rfl) (fun _ => rfl) Kb0 (fun x _ => (J7j x.1).elim fun F hF => ⟨F, fun kend => hF none _⟩)
@[reducible] def Jst  : List PM := [.d (.slc (.int .u8))]
def Jpv  : Orc := Orc.of Jst true 1 fun x => (Jer x.1, [.o 5 (.int .u8) (Ji3 x.1)])
def Ju5  : List (FuncId × Orc) := []
theorem Kfm (F : Nat) (x : Jaz Jst) (kend : List BV → ZO) : Jam prog (bkZ Ju5) F 20 125 (Jae Jst x) [.o 5 (.int .u8)] kend = J4g F x.1 none (fun y0 => kend [BV.o 5 (.int .u8) y0]) := by kernel_rfl
theorem Jnx  : Jad prog 125 Jpv := Jap (B0 := bkY Ju5) bkN bkG Jao bkT Kfm (Jac fz) (by kernel_rfl) (fun _ => rfl) (bkO _) (fun x h => (J7k x.1 h).elim fun F hF => ⟨F, fun kend => hF none _⟩)
@[reducible] def Jpj  : List PM := [.d (.slc (.int .u8))]
def Jsu  : Orc := Orc.of Jpj true 1 fun x => (Jec x.1, [.d (.int .i64) (Ja7 x.1), .o 5 (.int .u8) (Jay x.1), .d (.int .i64) (Jbz x.1)])
@[reducible] def Je2  : Tpl := { cur := ⟨[(0, .var (.slc (.int .u8))), (4, .var (.int .i64)), (0, .var (.int .i64))], 58⟩, stk := [⟨[], 0⟩], heap := [] }
@[reducible] def Je3  : Tpl := { cur := ⟨[(0, .var (.slc (.int .u8))), (5, .var (.int .i64)), (0, .var (.int .i64)), (0, .var (.int .i64))], 56⟩, stk := [⟨[], 0⟩], heap := [] }
def Kfn  : List (FuncId × Orc) := [(112, Jyj), (113, Jnu), (125, Jpv)]
def Ju6  : Book := { Γ := gam, orc := Jbc Kfn, hint := Jav [(80, { keep := some [0, 5, 6, 7, 8], keeps := [(7, [0, 5, 6]), (13, [0, 6, 7, 8])], own := [], dat := [], stk := [] })] }
def Kfo (F : Nat) (nx : Je2.T → ZO) (kq : ZK) (x : Je2.T) : ZO := Jul F none (fun src first k => nx ((src, (first, (k, ()))), (((), ()), ()))) (fun y0 y1 y2 => kq (.exit 0) (Je2.inst ((y0, (y1, (y2, ()))), (((), ()), ())))) x.1.1 x.1.2.1 x.1.2.2.1
def Kfp (F m : Nat) (x : Je2.T) (kq : ZK) : ZO := Jf3 F none (fun y0 y1 y2 => kq (.exit 0) (Je2.inst ((y0, (y1, (y2, ()))), (((), ()), ())))) m x.1.1 x.1.2.1 x.1.2.2.1
def Kfq (F : Nat) (nx : Je3.T → ZO) (kq : ZK) (x : Je3.T) : ZO := Jo5 F none (fun src k n i => nx ((src, (k, (n, (i, ())))), (((), ()), ()))) (fun y0 y1 y2 y3 => kq (.exit 2) (Je3.inst ((y0, (y1, (y2, (y3, ())))), (((), ()), ())))) x.1.1 x.1.2.1 x.1.2.2.1 x.1.2.2.2.1
def Kfr (F m : Nat) (x : Je3.T) (kq : ZK) : ZO := Jhp F none (fun y0 y1 y2 y3 => kq (.exit 2) (Je3.inst ((y0, (y1, (y2, (y3, ())))), (((), ()), ())))) m x.1.1 x.1.2.1 x.1.2.2.1 x.1.2.2.2.1
def J6m (F : Nat) : List (LoE Unit) := [⟨80, 7, LO.of Je2 (Kfp F F)⟩,
 ⟨80, 13, LO.of Je3 (Kfr F F)⟩]
def Jky (F : Nat) : Jbu Unit := { toBook := Ju6, lo := Jcf (J6m F), need := Jaw [] }
theorem J4x (F : Nat) : Jbn prog (Jky F) F 80 0 7 Je2 (Kfo F) := fun d x KQ => by kernel_rfl
theorem J4y (F : Nat) : Jbn prog (Jky F) F 80 1 13 Je3 (Kfq F) := fun d x KQ => by kernel_rfl
theorem Kfs (F : Nat) : Jhk prog (Jky F) F := Ja0 (l := J6m F) rfl (fa (Jal 0 (by kernel_rfl) (by kernel_rfl) (Jah (J4x F) (fun _ _ => rfl) (fun _ _ _ _ => rfl))) (fa (Jal 1 (by kernel_rfl) (by kernel_rfl) (Jah (J4y F) (fun _ _ => rfl) (fun _ _ _ _ => rfl))) fz))
theorem Kny (F : Nat) (x : Jaz Jpj) (kend : List BV → ZO) : Jam prog (Jky F) F 20 80 (Jae Jpj x) [.d (.int .i64), .o 5 (.int .u8), .d (.int .i64)] kend = Ka9 F x.1 none (fun y0 y1 y2 => kend [BV.d (.int .i64) y0, BV.o 5 (.int .u8) y1, BV.d (.int .i64) y2]) := by kernel_rfl
theorem Jpk  : Jad prog 80 Jsu := Jap (B0 := Ju6) bkN bkG Jao bkT Kny (Jac (fa Jzy (fa Jly (fa Jnx fz)))) (by kernel_rfl) (fun _ => rfl) Kfs (fun x h => (Kbj x.1 h).elim fun F hF => ⟨F, fun kend => hF none _⟩)
end Go.AI
namespace Go.AI
open Go
open Go.Proofs.Tryz (prog)
set_option linter.unusedVariables false
@[reducible] def Jlw  : List PM := [.d (.slc (.int .u8)), .d (.slc (.int .u8))]
def Jq3  : Orc := Orc.of Jlw true 1 fun x => (Jfi x.1 x.2.1, [.o 5 (.int .u8) (Jjm x.1 x.2.1)])
@[reducible] def Jc4  : Tpl := { cur := ⟨[(1, .row 0), (1, .ptr 1 []), (10, .var (.slc (.int .u8))), (0, .var (.int .i64)), (0, .var (.int .i64))], 10⟩, stk := [⟨[], 9⟩, ⟨[], 0⟩], heap := [.row 5 (.int .u8) false, .box (.pr (.fn 101 (.un)) (.var .unit))] }
def J2v  : List (FuncId × Orc) := [(99, Ju1), (100, Jgh)]
def Jny  : Book := { Γ := gam, orc := Jbc J2v, hint := Jav [(102, { keep := some [1, 3, 14, 15, 16], keeps := [(3, [1, 3, 14, 15, 16])], own := [], dat := [], stk := [[]] })] }
def J2w (F : Nat) (nx : Jc4.T → ZO) (kq : ZK) (x : Jc4.T) : ZO := Jh5 F none (fun s14 s15 s16 dst => nx (((), ((), (s14, (s15, (s16, ()))))), (((), ((), ())), (dst, (((), ()), ()))))) (fun y0 y1 y2 y3 => kq (.exit 0) (Jc4.inst (((), ((), (y0, (y1, (y2, ()))))), (((), ((), ())), (y3, (((), ()), ())))))) x.1.2.2.1 x.1.2.2.2.1 x.1.2.2.2.2.1 x.2.2.1
def J2x (F m : Nat) (x : Jc4.T) (kq : ZK) : ZO := Jd8 F none (fun y0 y1 y2 y3 => kq (.exit 0) (Jc4.inst (((), ((), (y0, (y1, (y2, ()))))), (((), ((), ())), (y3, (((), ()), ())))))) m x.1.2.2.1 x.1.2.2.2.1 x.1.2.2.2.2.1 x.2.2.1
def Jta (F : Nat) : List (LoE Unit) := [⟨102, 3, LO.of Jc4 (J2x F F)⟩]
def Jjy (F : Nat) : Jbu Unit := { toBook := Jny, lo := Jcf (Jta F), need := Jaw [(102, 1)] }
theorem Ju7 (F : Nat) : Jbn prog (Jjy F) F 102 0 3 Jc4 (J2w F) := fun d x KQ => by kernel_rfl
theorem J2y (F : Nat) : Jhk prog (Jjy F) F := Ja0 (l := Jta F) rfl (fa (Jal 0 (by kernel_rfl) (by kernel_rfl) (Jah (Ju7 F) (fun _ _ => rfl) (fun _ _ _ _ => rfl))) fz)
theorem J4z (F : Nat) (x : Jaz Jlw) (kend : List BV → ZO) : Jam prog (Jjy F) F 20 53 (Jae Jlw x) [.o 5 (.int .u8)] kend = Jr8 F x.1 x.2.1 none (fun y0 => kend [BV.o 5 (.int .u8) y0]) := by kernel_rfl
theorem Jtt  : Jad prog 53 Jq3 := Jap (B0 := Jny) bkN bkG Jao bkT J4z (Jac (fa Jqz (fa Jed fz))) (by kernel_rfl) (fun _ => rfl) J2y (fun x h => (Jzt x.1 x.2.1 h).elim fun F hF => ⟨F, fun kend => hF none _⟩)
@[reducible] def Jmk  : List PM := [.d (.slc (.int .u8))]
def Jyk  : Orc := Orc.of Jmk false 0 fun x => (Jgt x.1, [.d (.slc (.int .u8)) (Jet x.1), .d (.slc (.int .u8)) (Jeu x.1), .d (.int .i64) (Jc3 x.1)])
def Ju8  : List (FuncId × Orc) := [(72, Ju3), (100, Jgh)]
theorem Kft (F : Nat) (x : Jaz Jmk) (kend : List BV → ZO) : Jam prog (bkZ Ju8) F 20 75 (Jae Jmk x) [.d (.slc (.int .u8)), .d (.slc (.int .u8)), .d (.int .i64)] kend = J4h F x.1 none (fun y0 y1 y2 => kend [BV.d (.slc (.int .u8)) y0, BV.d (.slc (.int .u8)) y1, BV.d (.int .i64) y2]) := by kernel_rfl
theorem Jzz  : Jad prog 75 Jyk := Jap (B0 := bkY Ju8) bkN bkG Jao bkT Kft (Jac (fa Jq0 (fa Jed fz))) (by kernel_rfl) (fun _ => rfl) (bkO _) (fun x h => (J7l x.1 h).elim fun F hF => ⟨F, fun kend => hF none _⟩)
@[reducible] def Jnz  : List PM := [.d (.slc (.int .u8))]
def Jtb  : Orc := Orc.of Jnz true 1 fun x => (Jku x.1, [.d (.int .i64) (Jbj x.1), .o 5 (.int .u8) (Jbt x.1), .d (.int .i64) (Jfg x.1)])
def Jq4  : List (FuncId × Orc) := [(80, Jsu)]
theorem J7w (F : Nat) (x : Jaz Jnz) (kend : List BV → ZO) : Jam prog (bkZ Jq4) F 20 126 (Jae Jnz x) [.d (.int .i64), .o 5 (.int .u8), .d (.int .i64)] kend = Jum F x.1 none (fun y0 y1 y2 => kend [BV.d (.int .i64) y0, BV.o 5 (.int .u8) y1, BV.d (.int .i64) y2]) := by kernel_rfl
theorem Ju9  : Jad prog 126 Jtb := Jap (B0 := bkY Jq4) bkN bkG Jao bkT J7w (Jac (fa Jpk fz)) (by kernel_rfl) (fun _ => rfl) (bkO _) (fun x h => (J2k x.1 h).elim fun F hF => ⟨F, fun kend => hF none _⟩)
@[reducible] def Jkz  : List PM := [.d (.slc (.int .u8))]
def Jva  : Orc := Orc.of Jkz true 2 fun x => (Jes x.1, [.o 5 (.int .u8) (Jcx x.1), .o 5 (.int .u8) (Jcy x.1), .d (.int .i64) (Jcz x.1)])
def Jtc  : List (FuncId × Orc) := [(125, Jpv), (126, Jtb)]
theorem Kb1 (F : Nat) (x : Jaz Jkz) (kend : List BV → ZO) : Jam prog (bkZ Jtc) F 20 82 (Jae Jkz x) [.o 5 (.int .u8), .o 5 (.int .u8), .d (.int .i64)] kend = Jzn F x.1 none (fun y0 y1 y2 => kend [BV.o 5 (.int .u8) y0, BV.o 5 (.int .u8) y1, BV.d (.int .i64) y2]) := by kernel_rfl
theorem Jx4  : Jad prog 82 Jva := Jap (B0 := bkY Jtc) bkN bkG Jao bkT Kb1 (Jac (fa Jnx (fa Ju9 fz))) (by kernel_rfl) (fun _ => rfl) (bkO _) (fun x h => (J4o x.1 h).elim fun F hF => ⟨F, fun kend => hF none _⟩)
end Go.AI
namespace Go.AI
open Go
open Go.Proofs.Tryz (prog)
set_option linter.unusedVariables false
@[reducible] def Kz1  : List PM := [.d (.int .u32), .d (.int .i64)]
def Knz  : Orc := Orc.of Kz1 true 0 fun x => (Jyb x.1 x.2.1, [.d (.int .u32) (Kax x.1 x.2.1)])
def Ksy  : List (FuncId × Orc) := []
theorem Qjf (F : Nat) (x : Jaz Kz1) (kend : List BV → ZO) : Jam prog (bkZ Ksy) F 20 168 (Jae Kz1 x) [.d (.int .u32)] kend = rotr F x.1 x.2.1 none (fun y0 => kend [BV.d (.int .u32) y0]) := by kernel_rfl
theorem J2z  : Jad prog 168 Knz := Jap (B0 := bkY Ksy) bkN bkG Jao bkT Qjf (Jac fz) (by kernel_rfl) (fun _ => rfl) (bkO _) (fun x h => (K65 x.1 x.2.1 h).elim fun F hF => ⟨F, fun kend => hF none _⟩)
@[reducible] def Qec  : List PM := [.d (.int .u32), .d (.int .i64)]
def Qed  : Orc := Orc.of Qec true 0 fun x => (Qic x.1 x.2.1, [.d (.int .u32) (Qlu x.1 x.2.1)])
def K5f  : List (FuncId × Orc) := []
theorem Qnp (F : Nat) (x : Jaz Qec) (kend : List BV → ZO) : Jam prog (bkZ K5f) F 20 177 (Jae Qec x) [.d (.int .u32)] kend = shr F x.1 x.2.1 none (fun y0 => kend [BV.d (.int .u32) y0]) := by kernel_rfl
theorem Ksz  : Jad prog 177 Qed := Jap (B0 := bkY K5f) bkN bkG Jao bkT Qnp (Jac fz) (by kernel_rfl) (fun _ => rfl) (bkO _) (fun x h => (Qcr x.1 x.2.1 h).elim fun F hF => ⟨F, fun kend => hF none _⟩)
def Ks0  : List (FuncId × Orc) := [(168, Knz)]
def J20  : Book := { Γ := gam, orc := Jbc Ks0, hint := Jav [] }
def Ki4 (F : Nat) : List (LoE Unit) := []
def Jvb (F : Nat) : Jbu Unit := { toBook := J20, lo := Jcf (Ki4 F), need := Jaw [] }
theorem Ks1 (F : Nat) : Jhk prog (Jvb F) F := Ja0 (l := Ki4 F) rfl fz
theorem Kz2 (F : Nat) (x_ : UInt32) (a b c : Int) (kend : List BV → ZO) : Jam prog (Jvb F) F 20 167 [.d (.int .u32) x_, .d (.int .i64) a, .d (.int .i64) b, .d (.int .i64) c, .f 168] [.d (.int .u32)] kend = Kyd F x_ a b c none (fun y0 => kend [BV.d (.int .u32) y0]) := by kernel_rfl
theorem Jtd  : Jad prog 167 (Orc.of [.d (.int .u32), .d (.int .i64), .d (.int .i64), .d (.int .i64), .f] true 0 fun x => ((Nat.beq x.2.2.2.2.1 168) && Jgs x.1 x.2.1 x.2.2.1 x.2.2.2.1 x.2.2.2.2.1, [.d (.int .u32) (Je0 x.1 x.2.1 x.2.2.1 x.2.2.2.1 x.2.2.2.2.1)])) := Jem (B0 := J20) bkN bkG Jao bkT (Jac (fa J2z fz)) (by kernel_rfl) (fun x h => by
 obtain ⟨x0, x1, x2, x3, x4, _⟩ := x
 simp only [Bool.and_eq_true] at h
 obtain ⟨e, h⟩ := h
 have e := Nat.eq_of_beq_eq_true e
 subst e
 obtain ⟨F, hF⟩ := Kmi x0 x1 x2 x3 h
 exact ⟨F, 20, Jvb F, rfl, Ks1 F, fun kend => (Kz2 F x0 x1 x2 x3 kend).trans (hF none (fun y0 => kend [BV.d (.int .u32) y0]))⟩)
def Ks2  : List (FuncId × Orc) := [(168, Knz), (177, Qed)]
def J21  : Book := { Γ := gam, orc := Jbc Ks2, hint := Jav [] }
def Ki5 (F : Nat) : List (LoE Unit) := []
def Jvc (F : Nat) : Jbu Unit := { toBook := J21, lo := Jcf (Ki5 F), need := Jaw [] }
theorem Ks3 (F : Nat) : Jhk prog (Jvc F) F := Ja0 (l := Ki5 F) rfl fz
theorem Kz3 (F : Nat) (x_ : UInt32) (a b c : Int) (kend : List BV → ZO) : Jam prog (Jvc F) F 20 167 [.d (.int .u32) x_, .d (.int .i64) a, .d (.int .i64) b, .d (.int .i64) c, .f 177] [.d (.int .u32)] kend = Kye F x_ a b c none (fun y0 => kend [BV.d (.int .u32) y0]) := by kernel_rfl
theorem J7x  : Jad prog 167 (Orc.of [.d (.int .u32), .d (.int .i64), .d (.int .i64), .d (.int .i64), .f] true 0 fun x => ((Nat.beq x.2.2.2.2.1 177) && Jgs x.1 x.2.1 x.2.2.1 x.2.2.2.1 x.2.2.2.2.1, [.d (.int .u32) (Je0 x.1 x.2.1 x.2.2.1 x.2.2.2.1 x.2.2.2.2.1)])) := Jem (B0 := J21) bkN bkG Jao bkT (Jac (fa J2z (fa Ksz fz))) (by kernel_rfl) (fun x h => by
 obtain ⟨x0, x1, x2, x3, x4, _⟩ := x
 simp only [Bool.and_eq_true] at h
 obtain ⟨e, h⟩ := h
 have e := Nat.eq_of_beq_eq_true e
 subst e
 obtain ⟨F, hF⟩ := Kmj x0 x1 x2 x3 h
 exact ⟨F, 20, Jvc F, rfl, Ks3 F, fun kend => (Kz3 F x0 x1 x2 x3 kend).trans (hF none (fun y0 => kend [BV.d (.int .u32) y0]))⟩)
def Ks4  : Orc := Orc.of [.d (.int .u32), .d (.int .i64), .d (.int .i64), .d (.int .i64), .f] true 0 fun x => ((Nat.beq x.2.2.2.2.1 168 || Nat.beq x.2.2.2.2.1 177) && Jgs x.1 x.2.1 x.2.2.1 x.2.2.2.1 x.2.2.2.2.1, [.d (.int .u32) (Je0 x.1 x.2.1 x.2.2.1 x.2.2.2.1 x.2.2.2.2.1)])
theorem Kfu  : Jad prog 167 Ks4 := Jkt Jtd.1 (fun x h => by
 obtain ⟨x0, x1, x2, x3, x4, _⟩ := x
 simp only [Bool.and_eq_true, Bool.or_eq_true] at h
 obtain ⟨e, _⟩ := h
 rcases e with e | e
 ·have e := Nat.eq_of_beq_eq_true e
  subst e
  exact ⟨_, Jtd, rfl⟩
 ·have e := Nat.eq_of_beq_eq_true e
  subst e
  exact ⟨_, J7x, rfl⟩)
@[reducible] def Kb2  : List PM := []
def Ki6  : Orc := Orc.of Kb2 true 0 fun x => (J8r, [.d (.arr 64 (.int .u32)) (Klm)])
def Kb3  : List (FuncId × Orc) := []
theorem K70 (F : Nat) (x : Jaz Kb2) (kend : List BV → ZO) : Jam prog (bkZ Kb3) F 20 176 (Jae Kb2 x) [.d (.arr 64 (.int .u32))] kend = Qkg F  none (fun y0 => kend [BV.d (.arr 64 (.int .u32)) y0]) := by kernel_rfl
theorem Kb4  : Jad prog 176 Ki6 := Jap (B0 := bkY Kb3) bkN bkG Jao bkT K70 (Jac fz) (by kernel_rfl) (fun _ => rfl) (bkO _) (fun x h => (Krm  h).elim fun F hF => ⟨F, fun kend => hF none _⟩)
@[reducible] def Kb5  : List PM := [.d (.arr 8 (.int .u32)), .d (.slc (.int .u8))]
def Ki7  : Orc := Orc.of Kb5 true 0 fun x => (J09 x.1 x.2.1, [.d (.arr 8 (.int .u32)) (Kln x.1 x.2.1)])
@[reducible] def Jih  : Tpl := { cur := ⟨[(0, .hnd .yield 0), (0, .ptr 2 []), (1, .ptr 3 []), (0, .var (.int .i64)), (0, .var (.int .u32)), (4, .var (.arr 64 (.int .u32))), (0, .var (.int .i64)), (11, .var (.slc (.int .u8))), (0, .var (.int .i64)), (0, .var (.int .i64))], 50⟩, stk := [⟨[(0, .hnd .yield 0)], 0⟩, ⟨[(2, .ptr 4 []), (1, .ptr 5 []), (0, .ptr 1 [])], 78⟩, ⟨[], 0⟩], heap := [.lp 156 3 ⟨[(5, .ptr 1 [])], 78⟩ .ready, .box (.var (.arr 8 (.int .u32))), .box (.var (.slc (.int .u8))), .box (.var (.arr 16 (.int .u32))), .box (.var (.arr 8 (.int .u32))), .box (.var (.arr 8 (.int .u32)))] }
@[reducible] def Jii  : Tpl := { cur := ⟨[(0, .hnd .yield 0), (0, .ptr 2 []), (1, .ptr 3 []), (6, .var (.arr 64 (.int .u32))), (0, .var (.int .i64))], 64⟩, stk := [⟨[(0, .hnd .yield 0)], 0⟩, ⟨[(2, .ptr 4 []), (1, .ptr 5 []), (0, .ptr 1 [])], 78⟩, ⟨[], 0⟩], heap := [.lp 156 3 ⟨[(5, .ptr 1 [])], 78⟩ .ready, .box (.var (.arr 8 (.int .u32))), .box (.var (.slc (.int .u8))), .box (.var (.arr 16 (.int .u32))), .box (.var (.arr 8 (.int .u32))), .box (.var (.arr 8 (.int .u32)))] }
@[reducible] def Jij  : Tpl := { cur := ⟨[(2, .ptr 0 []), (1, .ptr 1 []), (0, .ptr 2 []), (65, .var (.int .i64))], 12⟩, stk := [⟨[], 0⟩], heap := [.box (.var (.arr 8 (.int .u32))), .box (.var (.arr 8 (.int .u32))), .box (.var (.arr 8 (.int .u32)))] }
def Kz4  : List (FuncId × Orc) := [(167, Ks4), (176, Ki6)]
def J6n  : Book := { Γ := gam, orc := Jbc Kz4, hint := Jav [(156, { keep := some [2, 4, 5, 71], keeps := [(9, [2, 4, 5, 71])], own := [], dat := [], stk := [] }), (175, { keep := some [0, 1, 3, 4, 5, 10, 11, 23, 24, 25], keeps := [(2, [0, 1, 3, 10, 11]), (6, [0, 1, 3, 4, 5, 10, 11, 23, 24, 25])], own := [], dat := [], stk := [[0], [2, 4, 5, 6, 7, 8, 9, 10, 15, 21]] })] }
def Kz5 (F : Nat) (nx : Jih.T → ZO) (kq : ZK) (x : Jih.T) : ZO := J1w F none (fun i k s10 s11 s23 s24 s25 x_ s1 w s s4 => nx (((), ((), ((), (i, (k, (s10, (s11, (s23, (s24, (s25, ())))))))))), ((((), ()), (((), ((), ((), ()))), ((), ()))), (((), ()), (x_, (s1, (w, (s, (s4, ()))))))))) (fun y0 y1 y2 y3 y4 y5 y6 y7 y8 y9 y10 y11 => kq (.exit 2) (Jih.inst (((), ((), ((), (y0, (y1, (y2, (y3, (y4, (y5, (y6, ())))))))))), ((((), ()), (((), ((), ((), ()))), ((), ()))), (((), ()), (y7, (y8, (y9, (y10, (y11, ())))))))))) x.1.2.2.2.1 x.1.2.2.2.2.1 x.1.2.2.2.2.2.1 x.1.2.2.2.2.2.2.1 x.1.2.2.2.2.2.2.2.1 x.1.2.2.2.2.2.2.2.2.1 x.1.2.2.2.2.2.2.2.2.2.1 x.2.2.2.1 x.2.2.2.2.1 x.2.2.2.2.2.1 x.2.2.2.2.2.2.1 x.2.2.2.2.2.2.2.1
def Kz6 (F m : Nat) (x : Jih.T) (kq : ZK) : ZO := Ji7 F none (fun y0 y1 y2 y3 y4 y5 y6 y7 y8 y9 y10 y11 => kq (.exit 2) (Jih.inst (((), ((), ((), (y0, (y1, (y2, (y3, (y4, (y5, (y6, ())))))))))), ((((), ()), (((), ((), ((), ()))), ((), ()))), (((), ()), (y7, (y8, (y9, (y10, (y11, ())))))))))) m x.1.2.2.2.1 x.1.2.2.2.2.1 x.1.2.2.2.2.2.1 x.1.2.2.2.2.2.2.1 x.1.2.2.2.2.2.2.2.1 x.1.2.2.2.2.2.2.2.2.1 x.1.2.2.2.2.2.2.2.2.2.1 x.2.2.2.1 x.2.2.2.2.1 x.2.2.2.2.2.1 x.2.2.2.2.2.2.1 x.2.2.2.2.2.2.2.1
def Kz7 (F : Nat) (nx : Jii.T → ZO) (kq : ZK) (x : Jii.T) : ZO := J1x F none (fun s10 s11 x_ s1 w s s4 => nx (((), ((), ((), (s10, (s11, ()))))), ((((), ()), (((), ((), ((), ()))), ((), ()))), (((), ()), (x_, (s1, (w, (s, (s4, ()))))))))) (fun y0 y1 y2 y3 y4 y5 y6 => kq (.exit 0) (Jii.inst (((), ((), ((), (y0, (y1, ()))))), ((((), ()), (((), ((), ((), ()))), ((), ()))), (((), ()), (y2, (y3, (y4, (y5, (y6, ())))))))))) x.1.2.2.2.1 x.1.2.2.2.2.1 x.2.2.2.1 x.2.2.2.2.1 x.2.2.2.2.2.1 x.2.2.2.2.2.2.1 x.2.2.2.2.2.2.2.1
def Kz8 (F m : Nat) (x : Jii.T) (kq : ZK) : ZO := Jmt F none (fun y0 y1 y2 y3 y4 y5 y6 => kq (.exit 0) (Jii.inst (((), ((), ((), (y0, (y1, ()))))), ((((), ()), (((), ((), ((), ()))), ((), ()))), (((), ()), (y2, (y3, (y4, (y5, (y6, ())))))))))) m x.1.2.2.2.1 x.1.2.2.2.2.1 x.2.2.2.1 x.2.2.2.2.1 x.2.2.2.2.2.1 x.2.2.2.2.2.2.1 x.2.2.2.2.2.2.2.1
def Kz9 (F : Nat) (nx : Jij.T → ZO) (kq : ZK) (x : Jij.T) : ZO := Kra F none (fun s71 s s4 x_ => nx (((), ((), ((), (s71, ())))), (((), ()), (s, (s4, (x_, ())))))) (fun y0 y1 y2 y3 => kq (.exit 2) (Jij.inst (((), ((), ((), (y0, ())))), (((), ()), (y1, (y2, (y3, ()))))))) x.1.2.2.2.1 x.2.2.1 x.2.2.2.1 x.2.2.2.2.1
def K0a (F m : Nat) (x : Jij.T) (kq : ZK) : ZO := Jqj F none (fun y0 y1 y2 y3 => kq (.exit 2) (Jij.inst (((), ((), ((), (y0, ())))), (((), ()), (y1, (y2, (y3, ()))))))) m x.1.2.2.2.1 x.2.2.1 x.2.2.2.1 x.2.2.2.2.1
def Ks5 (F : Nat) : List (LoE Unit) := [⟨175, 6, LO.of Jih (Kz6 F F)⟩,
 ⟨175, 2, LO.of Jii (Kz8 F F)⟩,
 ⟨156, 9, LO.of Jij (K0a F F)⟩]
def Jn0 (F : Nat) : Jbu Unit := { toBook := J6n, lo := Jcf (Ks5 F), need := Jaw [(175, 1)] }
theorem Kfv (F : Nat) : Jbn prog (Jn0 F) F 175 1 6 Jih (Kz5 F) := fun d x KQ => by kernel_rfl
theorem Kfw (F : Nat) : Jbn prog (Jn0 F) F 175 0 2 Jii (Kz7 F) := fun d x KQ => by kernel_rfl
theorem Kfx (F : Nat) : Jbn prog (Jn0 F) F 156 0 9 Jij (Kz9 F) := fun d x KQ => by kernel_rfl
theorem K0b (F : Nat) : Jhk prog (Jn0 F) F := Ja0 (l := Ks5 F) rfl (fa (Jal 1 (by kernel_rfl) (by kernel_rfl) (Jah (Kfv F) (fun _ _ => rfl) (fun _ _ _ _ => rfl))) (fa (Jal 0 (by kernel_rfl) (by kernel_rfl) (Jah (Kfw F) (fun _ _ => rfl) (fun _ _ _ _ => rfl))) (fa (Jal 0 (by kernel_rfl) (by kernel_rfl) (Jah (Kfx F) (fun _ _ => rfl) (fun _ _ _ _ => rfl))) fz)))
theorem K71 (F : Nat) (x : Jaz Kb5) (kend : List BV → ZO) : Jam prog (Jn0 F) F 20 156 (Jae Kb5 x) [.d (.arr 8 (.int .u32))] kend = Qbz F x.1 x.2.1 none (fun y0 => kend [BV.d (.arr 8 (.int .u32)) y0]) := by kernel_rfl
theorem Kb6  : Jad prog 156 Ki7 := Jap (B0 := J6n) bkN bkG Jao bkT K71 (Jac (fa Kfu (fa Kb4 fz))) (by kernel_rfl) (fun _ => rfl) K0b (fun x h => (Krq x.1 x.2.1 h).elim fun F hF => ⟨F, fun kend => hF none _⟩)
@[reducible] def K0c  : List PM := []
def Kn0  : Orc := Orc.of K0c false 0 fun x => (J6a, [.d (.pair (.arr 8 (.int .u32)) (.pair (.slc (.int .u8)) (.pair (.int .i64) .unit))) (Jhv)])
def Ks6  : List (FuncId × Orc) := []
theorem Qjg (F : Nat) (x : Jaz K0c) (kend : List BV → ZO) : Jam prog (bkZ Ks6) F 20 140 (Jae K0c x) [.d (.pair (.arr 8 (.int .u32)) (.pair (.slc (.int .u8)) (.pair (.int .i64) .unit)))] kend = hNew F  none (fun y0 => kend [BV.d (.pair (.arr 8 (.int .u32)) (.pair (.slc (.int .u8)) (.pair (.int .i64) .unit))) y0]) := by kernel_rfl
theorem J22  : Jad prog 140 Kn0 := Jap (B0 := bkY Ks6) bkN bkG Jao bkT Qjg (Jac fz) (by kernel_rfl) (fun _ => rfl) (bkO _) (fun x h => (K66  h).elim fun F hF => ⟨F, fun kend => hF none _⟩)
@[reducible] def Kb7  : List PM := [.d (.pair (.arr 8 (.int .u32)) (.pair (.slc (.int .u8)) (.pair (.int .i64) .unit))), .d (.slc (.int .u8))]
def Jxt  : Orc := Orc.of Kb7 false 0 fun x => (Jeq x.1 x.2.1, [.d (.pair (.arr 8 (.int .u32)) (.pair (.slc (.int .u8)) (.pair (.int .i64) .unit))) (Jdb x.1 x.2.1)])
@[reducible] def Jik  : Tpl := { cur := ⟨[(1, .var (.slc (.int .u8))), (0, .ptr 0 []), (1, .ptr 1 []), (0, .ptr 2 []), (7, .var (.arr 8 (.int .u32))), (0, .var (.int .i64))], 45⟩, stk := [⟨[], 0⟩], heap := [.box (.var (.pair (.arr 8 (.int .u32)) (.pair (.slc (.int .u8)) (.pair (.int .i64) .unit)))), .box (.var (.pair (.arr 8 (.int .u32)) (.pair (.slc (.int .u8)) (.pair (.int .i64) .unit)))), .box (.var (.arr 8 (.int .u32)))] }
@[reducible] def Jil  : Tpl := { cur := ⟨[(1, .var (.slc (.int .u8))), (0, .ptr 0 []), (1, .ptr 1 []), (0, .ptr 2 []), (2, .var (.slc (.int .u8)))], 51⟩, stk := [⟨[], 0⟩], heap := [.box (.var (.pair (.arr 8 (.int .u32)) (.pair (.slc (.int .u8)) (.pair (.int .i64) .unit)))), .box (.var (.pair (.arr 8 (.int .u32)) (.pair (.slc (.int .u8)) (.pair (.int .i64) .unit)))), .box (.var (.arr 8 (.int .u32)))] }
@[reducible] def Jim  : Tpl := { cur := ⟨[(4, .ptr 0 []), (4, .ptr 1 []), (39, .var (.arr 8 (.int .u32))), (0, .var (.int .i64))], 9⟩, stk := [⟨[], 0⟩], heap := [.box (.var (.pair (.arr 8 (.int .u32)) (.pair (.slc (.int .u8)) (.pair (.int .i64) .unit)))), .box (.pr (.var (.arr 8 (.int .u32))) (.pr (.row 2) (.var (.pair (.int .i64) .unit)))), .row 5 (.int .u8) false] }
def K0d  : List (FuncId × Orc) := [(156, Ki7)]
def J6o  : Book := { Γ := gam, orc := Jbc K0d, hint := Jav [(139, { keep := some [1, 2, 4, 5, 8, 9, 13, 14, 49, 50], keeps := [(3, [1, 2, 4, 5, 13, 14]), (8, [1, 2, 4, 5, 8]), (13, [4, 9, 49, 50])], own := [], dat := [], stk := [] })] }
def K0e (F : Nat) (nx : Jik.T → ZO) (kq : ZK) (x : Jik.T) : ZO := Krb F none (fun b s13 s14 h s4 s => nx ((b, ((), ((), ((), (s13, (s14, ())))))), (((), ()), (h, (s4, (s, ())))))) (fun y0 y1 y2 y3 y4 y5 => kq (.exit 0) (Jik.inst ((y0, ((), ((), ((), (y1, (y2, ())))))), (((), ()), (y3, (y4, (y5, ()))))))) x.1.1 x.1.2.2.2.2.1 x.1.2.2.2.2.2.1 x.2.2.1 x.2.2.2.1 x.2.2.2.2.1
def K0f (F m : Nat) (x : Jik.T) (kq : ZK) : ZO := Jwv F none (fun y0 y1 y2 y3 y4 y5 => kq (.exit 0) (Jik.inst ((y0, ((), ((), ((), (y1, (y2, ())))))), (((), ()), (y3, (y4, (y5, ()))))))) m x.1.1 x.1.2.2.2.2.1 x.1.2.2.2.2.2.1 x.2.2.1 x.2.2.2.1 x.2.2.2.2.1
def K0g (F : Nat) (nx : Jil.T → ZO) (kq : ZK) (x : Jil.T) : ZO := J1y F none (fun b all h s4 s => nx ((b, ((), ((), ((), (all, ()))))), (((), ()), (h, (s4, (s, ())))))) (fun y0 y1 y2 y3 y4 => kq (.exit 2) (Jil.inst ((y0, ((), ((), ((), (y1, ()))))), (((), ()), (y2, (y3, (y4, ()))))))) x.1.1 x.1.2.2.2.2.1 x.2.2.1 x.2.2.2.1 x.2.2.2.2.1
def K0h (F m : Nat) (x : Jil.T) (kq : ZK) : ZO := Jmu F none (fun y0 y1 y2 y3 y4 => kq (.exit 2) (Jil.inst ((y0, ((), ((), ((), (y1, ()))))), (((), ()), (y2, (y3, (y4, ()))))))) m x.1.1 x.1.2.2.2.2.1 x.2.2.1 x.2.2.2.1 x.2.2.2.2.1
def K0i (F : Nat) (nx : Jim.T → ZO) (kq : ZK) (x : Jim.T) : ZO := Krc F none (fun s49 s50 s4 out out1 h2 => nx (((), ((), (s49, (s50, ())))), (((), ()), (s4, ((out, ((), out1)), (h2, ())))))) (fun y0 y1 y2 y3 y4 y5 => kq (.exit 4) (Jim.inst (((), ((), (y0, (y1, ())))), (((), ()), (y2, ((y3, ((), y4)), (y5, ()))))))) x.1.2.2.1 x.1.2.2.2.1 x.2.2.1 x.2.2.2.1.1 x.2.2.2.1.2.2 x.2.2.2.2.1
def K0j (F m : Nat) (x : Jim.T) (kq : ZK) : ZO := Jww F none (fun y0 y1 y2 y3 y4 y5 => kq (.exit 4) (Jim.inst (((), ((), (y0, (y1, ())))), (((), ()), (y2, ((y3, ((), y4)), (y5, ()))))))) m x.1.2.2.1 x.1.2.2.2.1 x.2.2.1 x.2.2.2.1.1 x.2.2.2.1.2.2 x.2.2.2.2.1
def Ks7 (F : Nat) : List (LoE Unit) := [⟨139, 3, LO.of Jik (K0f F F)⟩,
 ⟨139, 8, LO.of Jil (K0h F F)⟩,
 ⟨139, 13, LO.of Jim (K0j F F)⟩]
def Jn1 (F : Nat) : Jbu Unit := { toBook := J6o, lo := Jcf (Ks7 F), need := Jaw [] }
theorem Kfy (F : Nat) : Jbn prog (Jn1 F) F 139 0 3 Jik (K0e F) := fun d x KQ => by kernel_rfl
theorem Kfz (F : Nat) : Jbn prog (Jn1 F) F 139 1 8 Jil (K0g F) := fun d x KQ => by kernel_rfl
theorem Kf0 (F : Nat) : Jbn prog (Jn1 F) F 139 2 13 Jim (K0i F) := fun d x KQ => by kernel_rfl
theorem K0k (F : Nat) : Jhk prog (Jn1 F) F := Ja0 (l := Ks7 F) rfl (fa (Jal 0 (by kernel_rfl) (by kernel_rfl) (Jah (Kfy F) (fun _ _ => rfl) (fun _ _ _ _ => rfl))) (fa (Jal 1 (by kernel_rfl) (by kernel_rfl) (Jah (Kfz F) (fun _ _ => rfl) (fun _ _ _ _ => rfl))) (fa (Jal 2 (by kernel_rfl) (by kernel_rfl) (Jah (Kf0 F) (fun _ _ => rfl) (fun _ _ _ _ => rfl))) fz)))
theorem K72 (F : Nat) (x : Jaz Kb7) (kend : List BV → ZO) : Jam prog (Jn1 F) F 20 139 (Jae Kb7 x) [.d (.pair (.arr 8 (.int .u32)) (.pair (.slc (.int .u8)) (.pair (.int .i64) .unit)))] kend = Qb0 F x.1 x.2.1 none (fun y0 => kend [BV.d (.pair (.arr 8 (.int .u32)) (.pair (.slc (.int .u8)) (.pair (.int .i64) .unit))) y0]) := by kernel_rfl
theorem Jn2  : Jad prog 139 Jxt := Jap (B0 := J6o) bkN bkG Jao bkT K72 (Jac (fa Kb6 fz)) (by kernel_rfl) (fun _ => rfl) K0k (fun x h => (Krt x.1 x.2.1 h).elim fun F hF => ⟨F, fun kend => hF none _⟩)
@[reducible] def J40  : List PM := [.d (.pair (.arr 8 (.int .u32)) (.pair (.slc (.int .u8)) (.pair (.int .i64) .unit)))]
def Jz0  : Orc := Orc.of J40 true 0 fun x => (Jh0 x.1, [.d (.arr 32 (.int .u8)) (Jlb x.1)])
@[reducible] def Jg2  : Tpl := { cur := ⟨[(1, .ptr 0 []), (0, .ptr 1 []), (0, .row 2), (0, .var (.int .i64))], 52⟩, stk := [⟨[], 0⟩], heap := [.box (.var (.pair (.arr 8 (.int .u32)) (.pair (.slc (.int .u8)) (.pair (.int .i64) .unit)))), .box (.var (.arr 32 (.int .u8))), .row 5 (.int .u8) false] }
@[reducible] def Jg3  : Tpl := { cur := ⟨[(2, .ptr 0 []), (2, .ptr 1 []), (0, .var (.int .i64)), (0, .var (.int .u32)), (27, .var (.arr 8 (.int .u32))), (0, .var (.int .i64)), (3, .var (.int .i64))], 16⟩, stk := [⟨[], 0⟩], heap := [.box (.var (.arr 32 (.int .u8))), .box (.var (.arr 32 (.int .u8)))] }
@[reducible] def Jg4  : Tpl := { cur := ⟨[(2, .ptr 0 []), (2, .ptr 1 []), (29, .var (.arr 8 (.int .u32))), (0, .var (.int .i64))], 20⟩, stk := [⟨[], 0⟩], heap := [.box (.var (.arr 32 (.int .u8))), .box (.var (.arr 32 (.int .u8)))] }
def Ks8  : List (FuncId × Orc) := [(139, Jxt)]
def J23  : Book := { Γ := gam, orc := Jbc Ks8, hint := Jav [(138, { keep := some [1, 2, 3, 4, 5, 6, 7, 35, 36, 40], keeps := [(4, [1, 2, 3, 4]), (9, [2, 5, 35, 36]), (12, [2, 5, 6, 7, 35, 36, 40])], own := [], dat := [], stk := [] })] }
def Ks9 (F : Nat) (nx : Jg2.T → ZO) (kq : ZK) (x : Jg2.T) : ZO := Jwx F none (fun shift h s2 pad => nx (((), ((), ((), (shift, ())))), (((), ()), (h, (s2, (pad, ())))))) (fun y0 y1 y2 y3 => kq (.exit 0) (Jg2.inst (((), ((), ((), (y0, ())))), (((), ()), (y1, (y2, (y3, ()))))))) x.1.2.2.2.1 x.2.2.1 x.2.2.2.1 x.2.2.2.2.1
def Kta (F m : Nat) (x : Jg2.T) (kq : ZK) : ZO := Jgy F none (fun y0 y1 y2 y3 => kq (.exit 0) (Jg2.inst (((), ((), ((), (y0, ())))), (((), ()), (y1, (y2, (y3, ()))))))) m x.1.2.2.2.1 x.2.2.1 x.2.2.2.1 x.2.2.2.2.1
def Ktb (F : Nat) (nx : Jg3.T → ZO) (kq : ZK) (x : Jg3.T) : ZO := Kil F none (fun i x_ s35 s36 s40 s2 out => nx (((), ((), (i, (x_, (s35, (s36, (s40, ()))))))), (((), ()), (s2, (out, ()))))) (fun y0 y1 y2 y3 y4 y5 y6 => kq (.exit 4) (Jg3.inst (((), ((), (y0, (y1, (y2, (y3, (y4, ()))))))), (((), ()), (y5, (y6, ())))))) x.1.2.2.1 x.1.2.2.2.1 x.1.2.2.2.2.1 x.1.2.2.2.2.2.1 x.1.2.2.2.2.2.2.1 x.2.2.1 x.2.2.2.1
def Ktc (F m : Nat) (x : Jg3.T) (kq : ZK) : ZO := Jzl F none (fun y0 y1 y2 y3 y4 y5 y6 => kq (.exit 4) (Jg3.inst (((), ((), (y0, (y1, (y2, (y3, (y4, ()))))))), (((), ()), (y5, (y6, ())))))) m x.1.2.2.1 x.1.2.2.2.1 x.1.2.2.2.2.1 x.1.2.2.2.2.2.1 x.1.2.2.2.2.2.2.1 x.2.2.1 x.2.2.2.1
def Ktd (F : Nat) (nx : Jg4.T → ZO) (kq : ZK) (x : Jg4.T) : ZO := Kim F none (fun s35 s36 s2 out => nx (((), ((), (s35, (s36, ())))), (((), ()), (s2, (out, ()))))) (fun y0 y1 y2 y3 => kq (.exit 2) (Jg4.inst (((), ((), (y0, (y1, ())))), (((), ()), (y2, (y3, ())))))) x.1.2.2.1 x.1.2.2.2.1 x.2.2.1 x.2.2.2.1
def Kte (F m : Nat) (x : Jg4.T) (kq : ZK) : ZO := Jr3 F none (fun y0 y1 y2 y3 => kq (.exit 2) (Jg4.inst (((), ((), (y0, (y1, ())))), (((), ()), (y2, (y3, ())))))) m x.1.2.2.1 x.1.2.2.2.1 x.2.2.1 x.2.2.2.1
def Ki8 (F : Nat) : List (LoE Unit) := [⟨138, 4, LO.of Jg2 (Kta F F)⟩,
 ⟨138, 12, LO.of Jg3 (Ktc F F)⟩,
 ⟨138, 9, LO.of Jg4 (Kte F F)⟩]
def Jlm (F : Nat) : Jbu Unit := { toBook := J23, lo := Jcf (Ki8 F), need := Jaw [] }
theorem Kb8 (F : Nat) : Jbn prog (Jlm F) F 138 0 4 Jg2 (Ks9 F) := fun d x KQ => by kernel_rfl
theorem Kb9 (F : Nat) : Jbn prog (Jlm F) F 138 2 12 Jg3 (Ktb F) := fun d x KQ => by kernel_rfl
theorem Kca (F : Nat) : Jbn prog (Jlm F) F 138 1 9 Jg4 (Ktd F) := fun d x KQ => by kernel_rfl
theorem Ktf (F : Nat) : Jhk prog (Jlm F) F := Ja0 (l := Ki8 F) rfl (fa (Jal 0 (by kernel_rfl) (by kernel_rfl) (Jah (Kb8 F) (fun _ _ => rfl) (fun _ _ _ _ => rfl))) (fa (Jal 2 (by kernel_rfl) (by kernel_rfl) (Jah (Kb9 F) (fun _ _ => rfl) (fun _ _ _ _ => rfl))) (fa (Jal 1 (by kernel_rfl) (by kernel_rfl) (Jah (Kca F) (fun _ _ => rfl) (fun _ _ _ _ => rfl))) fz)))
theorem K0l (F : Nat) (x : Jaz J40) (kend : List BV → ZO) : Jam prog (Jlm F) F 20 138 (Jae J40 x) [.d (.arr 32 (.int .u8))] kend = Kyf F x.1 none (fun y0 => kend [BV.d (.arr 32 (.int .u8)) y0]) := by kernel_rfl
theorem Jte  : Jad prog 138 Jz0 := Jap (B0 := J23) bkN bkG Jao bkT K0l (Jac (fa Jn2 fz)) (by kernel_rfl) (fun _ => rfl) Ktf (fun x h => (Kmp x.1 h).elim fun F hF => ⟨F, fun kend => hF none _⟩)
@[reducible] def K0m  : List PM := [.d (.slc (.int .u8))]
def K5g  : Orc := Orc.of K0m true 0 fun x => (Kq5 x.1, [.d (.arr 32 (.int .u8)) (Jyc x.1)])
def Ktg  : List (FuncId × Orc) := [(138, Jz0), (139, Jxt), (140, Kn0)]
theorem Qjh (F : Nat) (x : Jaz K0m) (kend : List BV → ZO) : Jam prog (bkZ Ktg) F 20 157 (Jae K0m x) [.d (.arr 32 (.int .u8))] kend = dSum F x.1 none (fun y0 => kend [BV.d (.arr 32 (.int .u8)) y0]) := by kernel_rfl
theorem Kn1  : Jad prog 157 K5g := Jap (B0 := bkY Ktg) bkN bkG Jao bkT Qjh (Jac (fa Jte (fa Jn2 (fa J22 fz)))) (by kernel_rfl) (fun _ => rfl) (bkO _) (fun x h => (K68 x.1 h).elim fun F hF => ⟨F, fun kend => hF none _⟩)
@[reducible] def J41  : List PM := []
def Kcb  : Orc := Orc.of J41 true 0 fun x => (J1a, [.d (.arr 64 (.int .u32)) (J1b)])
def J6p  : List (FuncId × Orc) := []
theorem K0n (F : Nat) (x : Jaz J41) (kend : List BV → ZO) : Jam prog (bkZ J6p) F 20 173 (Jae J41 x) [.d (.arr 64 (.int .u32))] kend = Qb1 F  none (fun y0 => kend [BV.d (.arr 64 (.int .u32)) y0]) := by kernel_rfl
theorem J7y  : Jad prog 173 Kcb := Jap (B0 := bkY J6p) bkN bkG Jao bkT K0n (Jac fz) (by kernel_rfl) (fun _ => rfl) (bkO _) (fun x h => (Kmk  h).elim fun F hF => ⟨F, fun kend => hF none _⟩)
@[reducible] def Kn2  : List PM := [.d (.int .u32), .d (.int .i64)]
def Kcc  : Orc := Orc.of Kn2 true 0 fun x => (Jea x.1 x.2.1, [.d (.int .u32) (Jhw x.1 x.2.1)])
def Ki9  : List (FuncId × Orc) := []
theorem Qee (F : Nat) (x : Jaz Kn2) (kend : List BV → ZO) : Jam prog (bkZ Ki9) F 20 174 (Jae Kn2 x) [.d (.int .u32)] kend = Ql4 F x.1 x.2.1 none (fun y0 => kend [BV.d (.int .u32) y0]) := by kernel_rfl
theorem Jyl  : Jad prog 174 Kcc := Jap (B0 := bkY Ki9) bkN bkG Jao bkT Qee (Jac fz) (by kernel_rfl) (fun _ => rfl) (bkO _) (fun x h => (Ky8 x.1 x.2.1 h).elim fun F hF => ⟨F, fun kend => hF none _⟩)
@[reducible] def Kcd  : List PM := [.d (.slc (.int .u8))]
def Kja  : Orc := Orc.of Kcd true 0 fun x => (J1c x.1, [.d (.arr 64 (.int .u32)) (J8s x.1)])
@[reducible] def Jin  : Tpl := { cur := ⟨[(0, .var (.slc (.int .u8))), (1, .ptr 0 []), (0, .ptr 1 []), (0, .var (.int .i64)), (0, .var (.int .i64))], 80⟩, stk := [⟨[], 0⟩], heap := [.box (.var (.arr 64 (.int .u32))), .box (.var (.arr 64 (.int .u32)))] }
@[reducible] def Jio  : Tpl := { cur := ⟨[(0, .var (.slc (.int .u8))), (1, .ptr 0 []), (0, .ptr 1 []), (0, .var (.int .i64))], 81⟩, stk := [⟨[], 0⟩], heap := [.box (.var (.arr 64 (.int .u32))), .box (.var (.arr 64 (.int .u32)))] }
@[reducible] def Jip  : Tpl := { cur := ⟨[(2, .ptr 0 []), (0, .ptr 1 []), (2, .var (.int .i64))], 79⟩, stk := [⟨[], 0⟩], heap := [.box (.var (.arr 64 (.int .u32))), .box (.var (.arr 64 (.int .u32)))] }
def K0o  : List (FuncId × Orc) := [(174, Kcc)]
def J6q  : Book := { Γ := gam, orc := Jbc K0o, hint := Jav [(172, { keep := some [0, 2, 3, 4, 5, 6], keeps := [(3, [0, 2, 3, 4]), (6, [0, 2, 3, 4, 5]), (10, [2, 3, 6])], own := [], dat := [], stk := [] })] }
def K0p (F : Nat) (nx : Jin.T → ZO) (kq : ZK) (x : Jin.T) : ZO := J1z F none (fun block i k s2 w => nx ((block, ((), ((), (i, (k, ()))))), (((), ()), (s2, (w, ()))))) (fun y0 y1 y2 y3 y4 => kq (.exit 2) (Jin.inst ((y0, ((), ((), (y1, (y2, ()))))), (((), ()), (y3, (y4, ())))))) x.1.1 x.1.2.2.2.1 x.1.2.2.2.2.1 x.2.2.1 x.2.2.2.1
def K0q (F m : Nat) (x : Jin.T) (kq : ZK) : ZO := Ji8 F none (fun y0 y1 y2 y3 y4 => kq (.exit 2) (Jin.inst ((y0, ((), ((), (y1, (y2, ()))))), (((), ()), (y3, (y4, ())))))) m x.1.1 x.1.2.2.2.1 x.1.2.2.2.2.1 x.2.2.1 x.2.2.2.1
def K0r (F : Nat) (nx : Jio.T → ZO) (kq : ZK) (x : Jio.T) : ZO := J10 F none (fun block i s2 w => nx ((block, ((), ((), (i, ())))), (((), ()), (s2, (w, ()))))) (fun y0 y1 y2 y3 => kq (.exit 0) (Jio.inst ((y0, ((), ((), (y1, ())))), (((), ()), (y2, (y3, ())))))) x.1.1 x.1.2.2.2.1 x.2.2.1 x.2.2.2.1
def K0s (F m : Nat) (x : Jio.T) (kq : ZK) : ZO := Jmv F none (fun y0 y1 y2 y3 => kq (.exit 0) (Jio.inst ((y0, ((), ((), (y1, ())))), (((), ()), (y2, (y3, ())))))) m x.1.1 x.1.2.2.2.1 x.2.2.1 x.2.2.2.1
def K0t (F : Nat) (nx : Jip.T → ZO) (kq : ZK) (x : Jip.T) : ZO := J11 F none (fun i s2 w => nx (((), ((), (i, ()))), (((), ()), (s2, (w, ()))))) (fun y0 y1 y2 => kq (.exit 4) (Jip.inst (((), ((), (y0, ()))), (((), ()), (y1, (y2, ())))))) x.1.2.2.1 x.2.2.1 x.2.2.2.1
def K0u (F m : Nat) (x : Jip.T) (kq : ZK) : ZO := Jmw F none (fun y0 y1 y2 => kq (.exit 4) (Jip.inst (((), ((), (y0, ()))), (((), ()), (y1, (y2, ())))))) m x.1.2.2.1 x.2.2.1 x.2.2.2.1
def Kth (F : Nat) : List (LoE Unit) := [⟨172, 6, LO.of Jin (K0q F F)⟩,
 ⟨172, 3, LO.of Jio (K0s F F)⟩,
 ⟨172, 10, LO.of Jip (K0u F F)⟩]
def Jn3 (F : Nat) : Jbu Unit := { toBook := J6q, lo := Jcf (Kth F), need := Jaw [] }
theorem Kf1 (F : Nat) : Jbn prog (Jn3 F) F 172 1 6 Jin (K0p F) := fun d x KQ => by kernel_rfl
theorem Kf2 (F : Nat) : Jbn prog (Jn3 F) F 172 0 3 Jio (K0r F) := fun d x KQ => by kernel_rfl
theorem Kf3 (F : Nat) : Jbn prog (Jn3 F) F 172 2 10 Jip (K0t F) := fun d x KQ => by kernel_rfl
theorem K0v (F : Nat) : Jhk prog (Jn3 F) F := Ja0 (l := Kth F) rfl (fa (Jal 1 (by kernel_rfl) (by kernel_rfl) (Jah (Kf1 F) (fun _ _ => rfl) (fun _ _ _ _ => rfl))) (fa (Jal 0 (by kernel_rfl) (by kernel_rfl) (Jah (Kf2 F) (fun _ _ => rfl) (fun _ _ _ _ => rfl))) (fa (Jal 2 (by kernel_rfl) (by kernel_rfl) (Jah (Kf3 F) (fun _ _ => rfl) (fun _ _ _ _ => rfl))) fz)))
theorem K73 (F : Nat) (x : Jaz Kcd) (kend : List BV → ZO) : Jam prog (Jn3 F) F 20 172 (Jae Kcd x) [.d (.arr 64 (.int .u32))] kend = Qb2 F x.1 none (fun y0 => kend [BV.d (.arr 64 (.int .u32)) y0]) := by kernel_rfl
theorem Kce  : Jad prog 172 Kja := Jap (B0 := J6q) bkN bkG Jao bkT K73 (Jac (fa Jyl fz)) (by kernel_rfl) (fun _ => rfl) K0v (fun x h => (Krr x.1 h).elim fun F hF => ⟨F, fun kend => hF none _⟩)
@[reducible] def J42  : List PM := [.d (.arr 8 (.int .u32)), .d (.slc (.int .u8))]
def Kcf  : Orc := Orc.of J42 true 0 fun x => (Jub x.1 x.2.1, [.d (.arr 8 (.int .u32)) (Jp4 x.1 x.2.1)])
@[reducible] def Jg5  : Tpl := { cur := ⟨[(2, .ptr 0 []), (1, .ptr 1 []), (0, .ptr 2 []), (0, .ptr 3 []), (0, .var (.int .u32)), (0, .var (.int .u32)), (0, .var (.int .u32)), (0, .var (.int .u32)), (0, .var (.int .u32)), (0, .var (.int .u32)), (0, .var (.int .u32)), (0, .var (.int .u32)), (0, .var (.int .i64))], 117⟩, stk := [⟨[], 0⟩], heap := [.box (.var (.arr 8 (.int .u32))), .box (.var (.arr 8 (.int .u32))), .box (.var (.arr 64 (.int .u32))), .box (.var (.arr 64 (.int .u32)))] }
def Kti  : List (FuncId × Orc) := [(172, Kja), (173, Kcb), (174, Kcc)]
def J24  : Book := { Γ := gam, orc := Jbc Kti, hint := Jav [(165, { keep := some [2, 4, 5, 6, 7, 8, 9, 10, 11, 12, 13, 14, 15], keeps := [(4, [2, 4, 5, 6, 7, 8, 9, 10, 11, 12, 13, 14, 15])], own := [], dat := [], stk := [] })] }
def Ktj (F : Nat) (nx : Jg5.T → ZO) (kq : ZK) (x : Jg5.T) : ZO := Jwy F none (fun a b c d_ e_ f g h i state s4 w k => nx (((), ((), ((), ((), (a, (b, (c, (d_, (e_, (f, (g, (h, (i, ()))))))))))))), (((), ()), (state, (s4, (w, (k, ()))))))) (fun y0 y1 y2 y3 y4 y5 y6 y7 y8 y9 y10 y11 y12 => kq (.exit 0) (Jg5.inst (((), ((), ((), ((), (y0, (y1, (y2, (y3, (y4, (y5, (y6, (y7, (y8, ()))))))))))))), (((), ()), (y9, (y10, (y11, (y12, ())))))))) x.1.2.2.2.2.1 x.1.2.2.2.2.2.1 x.1.2.2.2.2.2.2.1 x.1.2.2.2.2.2.2.2.1 x.1.2.2.2.2.2.2.2.2.1 x.1.2.2.2.2.2.2.2.2.2.1 x.1.2.2.2.2.2.2.2.2.2.2.1 x.1.2.2.2.2.2.2.2.2.2.2.2.1 x.1.2.2.2.2.2.2.2.2.2.2.2.2.1 x.2.2.1 x.2.2.2.1 x.2.2.2.2.1 x.2.2.2.2.2.1
def Ktk (F m : Nat) (x : Jg5.T) (kq : ZK) : ZO := Jkb F none (fun y0 y1 y2 y3 y4 y5 y6 y7 y8 y9 y10 y11 y12 => kq (.exit 0) (Jg5.inst (((), ((), ((), ((), (y0, (y1, (y2, (y3, (y4, (y5, (y6, (y7, (y8, ()))))))))))))), (((), ()), (y9, (y10, (y11, (y12, ())))))))) m x.1.2.2.2.2.1 x.1.2.2.2.2.2.1 x.1.2.2.2.2.2.2.1 x.1.2.2.2.2.2.2.2.1 x.1.2.2.2.2.2.2.2.2.1 x.1.2.2.2.2.2.2.2.2.2.1 x.1.2.2.2.2.2.2.2.2.2.2.1 x.1.2.2.2.2.2.2.2.2.2.2.2.1 x.1.2.2.2.2.2.2.2.2.2.2.2.2.1 x.2.2.1 x.2.2.2.1 x.2.2.2.2.1 x.2.2.2.2.2.1
def Kjb (F : Nat) : List (LoE Unit) := [⟨165, 4, LO.of Jg5 (Ktk F F)⟩]
def Jvd (F : Nat) : Jbu Unit := { toBook := J24, lo := Jcf (Kjb F), need := Jaw [] }
theorem Kcg (F : Nat) : Jbn prog (Jvd F) F 165 0 4 Jg5 (Ktj F) := fun d x KQ => by kernel_rfl
theorem Ktl (F : Nat) : Jhk prog (Jvd F) F := Ja0 (l := Kjb F) rfl (fa (Jal 0 (by kernel_rfl) (by kernel_rfl) (Jah (Kcg F) (fun _ _ => rfl) (fun _ _ _ _ => rfl))) fz)
theorem K0w (F : Nat) (x : Jaz J42) (kend : List BV → ZO) : Jam prog (Jvd F) F 20 165 (Jae J42 x) [.d (.arr 8 (.int .u32))] kend = Kyg F x.1 x.2.1 none (fun y0 => kend [BV.d (.arr 8 (.int .u32)) y0]) := by kernel_rfl
theorem J7z  : Jad prog 165 Kcf := Jap (B0 := J24) bkN bkG Jao bkT K0w (Jac (fa Kce (fa J7y (fa Jyl fz)))) (by kernel_rfl) (fun _ => rfl) Ktl (fun x h => (Kmm x.1 x.2.1 h).elim fun F hF => ⟨F, fun kend => hF none _⟩)
@[reducible] def K0x  : List PM := []
def K5h  : Orc := Orc.of K0x false 0 fun x => (K3z, [.d (.pair (.arr 8 (.int .u32)) (.pair (.slc (.int .u8)) (.pair (.int .i64) .unit))) (J6c)])
def Ktm  : List (FuncId × Orc) := []
theorem Qji (F : Nat) (x : Jaz K0x) (kend : List BV → ZO) : Jam prog (bkZ Ktm) F 20 154 (Jae K0x x) [.d (.pair (.arr 8 (.int .u32)) (.pair (.slc (.int .u8)) (.pair (.int .i64) .unit)))] kend = sNew F  none (fun y0 => kend [BV.d (.pair (.arr 8 (.int .u32)) (.pair (.slc (.int .u8)) (.pair (.int .i64) .unit))) y0]) := by kernel_rfl
theorem Kn3  : Jad prog 154 K5h := Jap (B0 := bkY Ktm) bkN bkG Jao bkT Qji (Jac fz) (by kernel_rfl) (fun _ => rfl) (bkO _) (fun x h => (K67  h).elim fun F hF => ⟨F, fun kend => hF none _⟩)
@[reducible] def Kch  : List PM := [.d (.pair (.arr 8 (.int .u32)) (.pair (.slc (.int .u8)) (.pair (.int .i64) .unit)))]
def Kjc  : Orc := Orc.of Kch true 0 fun x => (true, [.d (.int .i64) (J1d x.1)])
def Kci  : List (FuncId × Orc) := []
theorem K74 (F : Nat) (x : Jaz Kch) (kend : List BV → ZO) : Jam prog (bkZ Kci) F 20 164 (Jae Kch x) [.d (.int .i64)] kend = Qb3 F x.1 none (fun y0 => kend [BV.d (.int .i64) y0]) := by kernel_rfl
theorem Kcj  : Jad prog 164 Kjc := Jap (B0 := bkY Kci) bkN bkG Jao bkT K74 (Jac fz) (by kernel_rfl) (fun _ => rfl) (bkO _) (fun x _ => (Krs x.1).elim fun F hF => ⟨F, fun kend => hF none _⟩)
@[reducible] def J43  : List PM := [.d (.pair (.arr 8 (.int .u32)) (.pair (.slc (.int .u8)) (.pair (.int .i64) .unit))), .d (.slc (.int .u8))]
def Jz1  : Orc := Orc.of J43 false 0 fun x => (Jjl x.1 x.2.1, [.d (.pair (.arr 8 (.int .u32)) (.pair (.slc (.int .u8)) (.pair (.int .i64) .unit))) (Jp5 x.1 x.2.1)])
@[reducible] def Jg6  : Tpl := { cur := ⟨[(2, .ptr 0 []), (1, .ptr 1 []), (0, .var (.slc (.int .u8)))], 26⟩, stk := [⟨[], 0⟩], heap := [.box (.var (.pair (.arr 8 (.int .u32)) (.pair (.slc (.int .u8)) (.pair (.int .i64) .unit)))), .box (.var (.pair (.arr 8 (.int .u32)) (.pair (.slc (.int .u8)) (.pair (.int .i64) .unit))))] }
def Ktn  : List (FuncId × Orc) := [(165, Kcf)]
def J25  : Book := { Γ := gam, orc := Jbc Ktn, hint := Jav [(153, { keep := some [2, 4, 5], keeps := [(3, [2, 4, 5])], own := [], dat := [(5, 24)], stk := [] })] }
def Kto (F : Nat) (nx : Jg6.T → ZO) (kq : ZK) (x : Jg6.T) : ZO := Jwz F none (fun all h s4 => nx (((), ((), (all, ()))), (((), ()), (h, (s4, ()))))) (fun y0 y1 y2 => kq (.exit 0) (Jg6.inst (((), ((), (y0, ()))), (((), ()), (y1, (y2, ())))))) x.1.2.2.1 x.2.2.1 x.2.2.2.1
def Ktp (F m : Nat) (x : Jg6.T) (kq : ZK) : ZO := Jkc F none (fun y0 y1 y2 => kq (.exit 0) (Jg6.inst (((), ((), (y0, ()))), (((), ()), (y1, (y2, ())))))) m x.1.2.2.1 x.2.2.1 x.2.2.2.1
def Kjd (F : Nat) : List (LoE Unit) := [⟨153, 3, LO.of Jg6 (Ktp F F)⟩]
def Jve (F : Nat) : Jbu Unit := { toBook := J25, lo := Jcf (Kjd F), need := Jaw [] }
theorem Kck (F : Nat) : Jbn prog (Jve F) F 153 0 3 Jg6 (Kto F) := fun d x KQ => by kernel_rfl
theorem Ktq (F : Nat) : Jhk prog (Jve F) F := Ja0 (l := Kjd F) rfl (fa (Jal 0 (by kernel_rfl) (by kernel_rfl) (Jah (Kck F) (fun _ _ => rfl) (fun _ _ _ _ => rfl))) fz)
theorem K0y (F : Nat) (x : Jaz J43) (kend : List BV → ZO) : Jam prog (Jve F) F 20 153 (Jae J43 x) [.d (.pair (.arr 8 (.int .u32)) (.pair (.slc (.int .u8)) (.pair (.int .i64) .unit)))] kend = Kyh F x.1 x.2.1 none (fun y0 => kend [BV.d (.pair (.arr 8 (.int .u32)) (.pair (.slc (.int .u8)) (.pair (.int .i64) .unit))) y0]) := by kernel_rfl
theorem Jtf  : Jad prog 153 Jz1 := Jap (B0 := J25) bkN bkG Jao bkT K0y (Jac (fa J7z fz)) (by kernel_rfl) (fun _ => rfl) Ktq (fun x h => (Kmn x.1 x.2.1 h).elim fun F hF => ⟨F, fun kend => hF none _⟩)
@[reducible] def J44  : List PM := [.d (.pair (.arr 8 (.int .u32)) (.pair (.slc (.int .u8)) (.pair (.int .i64) .unit)))]
def Kcl  : Orc := Orc.of J44 true 0 fun x => (Juc x.1, [.d (.arr 32 (.int .u8)) (Jwi x.1), .d (.int .i64) (J38 x.1)])
@[reducible] def Jg7  : Tpl := { cur := ⟨[(1, .ptr 0 []), (0, .ptr 1 []), (1, .var (.int .u64)), (0, .row 2)], 56⟩, stk := [⟨[], 0⟩], heap := [.box (.var (.pair (.arr 8 (.int .u32)) (.pair (.slc (.int .u8)) (.pair (.int .i64) .unit)))), .box (.var (.arr 32 (.int .u8))), .row 5 (.int .u8) false] }
@[reducible] def Jg8  : Tpl := { cur := ⟨[(1, .ptr 0 []), (0, .ptr 1 []), (1, .var (.int .u64)), (0, .row 2), (0, .var (.int .i64))], 55⟩, stk := [⟨[], 0⟩], heap := [.box (.var (.pair (.arr 8 (.int .u32)) (.pair (.slc (.int .u8)) (.pair (.int .i64) .unit)))), .box (.var (.arr 32 (.int .u8))), .row 5 (.int .u8) false] }
@[reducible] def Jg9  : Tpl := { cur := ⟨[(1, .ptr 0 []), (0, .ptr 1 []), (4, .ptr 2 []), (0, .var (.int .i64))], 53⟩, stk := [⟨[], 0⟩], heap := [.box (.var (.pair (.arr 8 (.int .u32)) (.pair (.slc (.int .u8)) (.pair (.int .i64) .unit)))), .box (.var (.arr 32 (.int .u8))), .box (.var (.arr 32 (.int .u8)))] }
def Ktr  : List (FuncId × Orc) := [(153, Jz1), (164, Kjc)]
def J26  : Book := { Γ := gam, orc := Jbc Ktr, hint := Jav [(152, { keep := some [1, 2, 4, 5, 6, 7, 8], keeps := [(5, [1, 2, 4, 5]), (8, [1, 2, 4, 5, 6]), (14, [1, 2, 7, 8])], own := [], dat := [], stk := [] })] }
def Kts (F : Nat) (nx : Jg7.T → ZO) (kq : ZK) (x : Jg7.T) : ZO := Jw0 F none (fun bits h s2 pad => nx (((), ((), (bits, ((), ())))), (((), ()), (h, (s2, (pad, ())))))) (fun y0 y1 y2 y3 => kq (.exit 0) (Jg7.inst (((), ((), (y0, ((), ())))), (((), ()), (y1, (y2, (y3, ()))))))) x.1.2.2.1 x.2.2.1 x.2.2.2.1 x.2.2.2.2.1
def Ktt (F m : Nat) (x : Jg7.T) (kq : ZK) : ZO := Jkd F none (fun y0 y1 y2 y3 => kq (.exit 0) (Jg7.inst (((), ((), (y0, ((), ())))), (((), ()), (y1, (y2, (y3, ()))))))) m x.1.2.2.1 x.2.2.1 x.2.2.2.1 x.2.2.2.2.1
def Ktu (F : Nat) (nx : Jg8.T → ZO) (kq : ZK) (x : Jg8.T) : ZO := Jw1 F none (fun bits i h s2 pad => nx (((), ((), (bits, ((), (i, ()))))), (((), ()), (h, (s2, (pad, ())))))) (fun y0 y1 y2 y3 y4 => kq (.exit 2) (Jg8.inst (((), ((), (y0, ((), (y1, ()))))), (((), ()), (y2, (y3, (y4, ()))))))) x.1.2.2.1 x.1.2.2.2.2.1 x.2.2.1 x.2.2.2.1 x.2.2.2.2.1
def Ktv (F m : Nat) (x : Jg8.T) (kq : ZK) : ZO := Jgz F none (fun y0 y1 y2 y3 y4 => kq (.exit 2) (Jg8.inst (((), ((), (y0, ((), (y1, ()))))), (((), ()), (y2, (y3, (y4, ()))))))) m x.1.2.2.1 x.1.2.2.2.2.1 x.2.2.1 x.2.2.2.1 x.2.2.2.2.1
def Ktw (F : Nat) (nx : Jg9.T → ZO) (kq : ZK) (x : Jg9.T) : ZO := Kin F none (fun i h s2 out => nx (((), ((), ((), (i, ())))), (((), ()), (h, (s2, (out, ())))))) (fun y0 y1 y2 y3 => kq (.exit 4) (Jg9.inst (((), ((), ((), (y0, ())))), (((), ()), (y1, (y2, (y3, ()))))))) x.1.2.2.2.1 x.2.2.1 x.2.2.2.1 x.2.2.2.2.1
def Ktx (F m : Nat) (x : Jg9.T) (kq : ZK) : ZO := Jr4 F none (fun y0 y1 y2 y3 => kq (.exit 4) (Jg9.inst (((), ((), ((), (y0, ())))), (((), ()), (y1, (y2, (y3, ()))))))) m x.1.2.2.2.1 x.2.2.1 x.2.2.2.1 x.2.2.2.2.1
def Kje (F : Nat) : List (LoE Unit) := [⟨152, 5, LO.of Jg7 (Ktt F F)⟩,
 ⟨152, 8, LO.of Jg8 (Ktv F F)⟩,
 ⟨152, 14, LO.of Jg9 (Ktx F F)⟩]
def Jln (F : Nat) : Jbu Unit := { toBook := J26, lo := Jcf (Kje F), need := Jaw [] }
theorem Kcm (F : Nat) : Jbn prog (Jln F) F 152 0 5 Jg7 (Kts F) := fun d x KQ => by kernel_rfl
theorem Kcn (F : Nat) : Jbn prog (Jln F) F 152 1 8 Jg8 (Ktu F) := fun d x KQ => by kernel_rfl
theorem Kco (F : Nat) : Jbn prog (Jln F) F 152 2 14 Jg9 (Ktw F) := fun d x KQ => by kernel_rfl
theorem Kty (F : Nat) : Jhk prog (Jln F) F := Ja0 (l := Kje F) rfl (fa (Jal 0 (by kernel_rfl) (by kernel_rfl) (Jah (Kcm F) (fun _ _ => rfl) (fun _ _ _ _ => rfl))) (fa (Jal 1 (by kernel_rfl) (by kernel_rfl) (Jah (Kcn F) (fun _ _ => rfl) (fun _ _ _ _ => rfl))) (fa (Jal 2 (by kernel_rfl) (by kernel_rfl) (Jah (Kco F) (fun _ _ => rfl) (fun _ _ _ _ => rfl))) fz)))
theorem K0z (F : Nat) (x : Jaz J44) (kend : List BV → ZO) : Jam prog (Jln F) F 20 152 (Jae J44 x) [.d (.arr 32 (.int .u8)), .d (.int .i64)] kend = Kyi F x.1 none (fun y0 y1 => kend [BV.d (.arr 32 (.int .u8)) y0, BV.d (.int .i64) y1]) := by kernel_rfl
theorem J70  : Jad prog 152 Kcl := Jap (B0 := J26) bkN bkG Jao bkT K0z (Jac (fa Jtf (fa Kcj fz))) (by kernel_rfl) (fun _ => rfl) Kty (fun x h => (Kmq x.1 h).elim fun F hF => ⟨F, fun kend => hF none _⟩)
@[reducible] def K00  : List PM := [.d (.slc (.int .u8))]
def K5i  : Orc := Orc.of K00 true 0 fun x => (Jp6 x.1, [.d (.arr 32 (.int .u8)) (Jh1 x.1)])
def Ktz  : List (FuncId × Orc) := [(152, Kcl), (153, Jz1), (154, K5h)]
theorem Qjj (F : Nat) (x : Jaz K00) (kend : List BV → ZO) : Jam prog (bkZ Ktz) F 20 133 (Jae K00 x) [.d (.arr 32 (.int .u8))] kend = rSum F x.1 none (fun y0 => kend [BV.d (.arr 32 (.int .u8)) y0]) := by kernel_rfl
theorem Kn4  : Jad prog 133 K5i := Jap (B0 := bkY Ktz) bkN bkG Jao bkT Qjj (Jac (fa J70 (fa Jtf (fa Kn3 fz)))) (by kernel_rfl) (fun _ => rfl) (bkO _) (fun x h => (K69 x.1 h).elim fun F hF => ⟨F, fun kend => hF none _⟩)
end Go.AI
namespace Go.AI
open Go
open Go.Proofs.Tryz (prog)
set_option linter.unusedVariables false
@[reducible] def Kcp  : List PM := [.d (.slc (.int .u8)), .d (.int .u8)]
def Kjf  : Orc := Orc.of Kcp true 1 fun x => (Jwh x.1 x.2.1, [.o 5 (.int .u8) (Je7 x.1 x.2.1)])
@[reducible] def Jiq  : Tpl := { cur := ⟨[(1, .var (.int .u8)), (4, .row 0), (12, .var (.int .i64)), (0, .var (.int .i64))], 11⟩, stk := [⟨[], 0⟩], heap := [.row 5 (.int .u8) false] }
def K01  : List (FuncId × Orc) := [(157, K5g)]
def J6r  : Book := { Γ := gam, orc := Jbc K01, hint := Jav [(141, { keep := some [1, 6, 19, 20], keeps := [(7, [1, 6, 19, 20])], own := [], dat := [], stk := [] })] }
def K02 (F : Nat) (nx : Jiq.T → ZO) (kq : ZK) (x : Jiq.T) : ZO := J12 F none (fun by_ s19 s20 out => nx ((by_, ((), (s19, (s20, ())))), (((), ()), (out, ())))) (fun y0 y1 y2 y3 => kq (.exit 0) (Jiq.inst ((y0, ((), (y1, (y2, ())))), (((), ()), (y3, ()))))) x.1.1 x.1.2.2.1 x.1.2.2.2.1 x.2.2.1
def K03 (F m : Nat) (x : Jiq.T) (kq : ZK) : ZO := Jke F none (fun y0 y1 y2 y3 => kq (.exit 0) (Jiq.inst ((y0, ((), (y1, (y2, ())))), (((), ()), (y3, ()))))) m x.1.1 x.1.2.2.1 x.1.2.2.2.1 x.2.2.1
def Kt0 (F : Nat) : List (LoE Unit) := [⟨141, 7, LO.of Jiq (K03 F F)⟩]
def Jz2 (F : Nat) : Jbu Unit := { toBook := J6r, lo := Jcf (Kt0 F), need := Jaw [] }
theorem Kf4 (F : Nat) : Jbn prog (Jz2 F) F 141 0 7 Jiq (K02 F) := fun d x KQ => by kernel_rfl
theorem K04 (F : Nat) : Jhk prog (Jz2 F) F := Ja0 (l := Kt0 F) rfl (fa (Jal 0 (by kernel_rfl) (by kernel_rfl) (Jah (Kf4 F) (fun _ _ => rfl) (fun _ _ _ _ => rfl))) fz)
theorem K75 (F : Nat) (x : Jaz Kcp) (kend : List BV → ZO) : Jam prog (Jz2 F) F 20 141 (Jae Kcp x) [.o 5 (.int .u8)] kend = Qb4 F x.1 x.2.1 none (fun y0 => kend [BV.o 5 (.int .u8) y0]) := by kernel_rfl
theorem Kcq  : Jad prog 141 Kjf := Jap (B0 := J6r) bkN bkG Jao bkT K75 (Jac (fa Kn1 fz)) (by kernel_rfl) (fun _ => rfl) K04 (fun x h => (Kr0 x.1 x.2.1 h).elim fun F hF => ⟨F, fun kend => hF none _⟩)
@[reducible] def K05  : List PM := [.d (.slc (.int .u8)), .d (.slc (.int .u8))]
def J9k  : Orc := Orc.of K05 true 0 fun x => (Jua x.1 x.2.1, [.d (.arr 32 (.int .u8)) (J6b x.1 x.2.1)])
def Kt1  : List (FuncId × Orc) := [(138, Jz0), (139, Jxt), (140, Kn0), (141, Kjf)]
theorem Qjk (F : Nat) (x : Jaz K05) (kend : List BV → ZO) : Jam prog (bkZ Kt1) F 20 103 (Jae K05 x) [.d (.arr 32 (.int .u8))] kend = dMac F x.1 x.2.1 none (fun y0 => kend [BV.d (.arr 32 (.int .u8)) y0]) := by kernel_rfl
theorem Jsv  : Jad prog 103 J9k := Jap (B0 := bkY Kt1) bkN bkG Jao bkT Qjk (Jac (fa Jte (fa Jn2 (fa J22 (fa Kcq fz))))) (by kernel_rfl) (fun _ => rfl) (bkO _) (fun x h => (K7c x.1 x.2.1 h).elim fun F hF => ⟨F, fun kend => hF none _⟩)
@[reducible] def K06  : List PM := [.d (.slc (.int .u8)), .d (.slc (.int .u8))]
def Kn5  : Orc := Orc.of K06 true 0 fun x => (J1e x.1 x.2.1, [.d (.arr 32 (.int .u8)) (Kid x.1 x.2.1)])
@[reducible] def Jn4  : Tpl := { cur := ⟨[(1, .var (.slc (.int .u8))), (2, .ptr 0 []), (0, .ptr 1 []), (1, .row 2), (0, .row 3), (0, .var (.int .i64))], 38⟩, stk := [⟨[], 0⟩], heap := [.box (.var (.arr 32 (.int .u8))), .box (.var (.arr 64 (.int .u8))), .row 5 (.int .u8) false, .row 5 (.int .u8) false] }
def Qef  : List (FuncId × Orc) := [(133, K5i)]
def Kjg  : Book := { Γ := gam, orc := Jbc Qef, hint := Jav [(89, { keep := some [1, 4, 5, 7, 8, 9], keeps := [(8, [1, 4, 5, 7, 8, 9])], own := [(7, 24), (8, 24)], dat := [], stk := [] })] }
def Qeg (F : Nat) (nx : Jn4.T → ZO) (kq : ZK) (x : Jn4.T) : ZO := Kl0 F none (fun b i s4 k inner outer => nx ((b, ((), ((), ((), ((), (i, ())))))), (((), ()), (s4, (k, (inner, (outer, ()))))))) (fun y0 y1 y2 y3 y4 y5 => kq (.exit 0) (Jn4.inst ((y0, ((), ((), ((), ((), (y1, ())))))), (((), ()), (y2, (y3, (y4, (y5, ())))))))) x.1.1 x.1.2.2.2.2.2.1 x.2.2.1 x.2.2.2.1 x.2.2.2.2.1 x.2.2.2.2.2.1
def Qeh (F m : Nat) (x : Jn4.T) (kq : ZK) : ZO := Jr9 F none (fun y0 y1 y2 y3 y4 y5 => kq (.exit 0) (Jn4.inst ((y0, ((), ((), ((), ((), (y1, ())))))), (((), ()), (y2, (y3, (y4, (y5, ())))))))) m x.1.1 x.1.2.2.2.2.2.1 x.2.2.1 x.2.2.2.1 x.2.2.2.2.1 x.2.2.2.2.2.1
def Qei (F : Nat) : List (LoE Unit) := [⟨89, 8, LO.of Jn4 (Qeh F F)⟩]
def Kcr (F : Nat) : Jbu Unit := { toBook := Kjg, lo := Jcf (Qei F), need := Jaw [] }
theorem Kt2 (F : Nat) : Jbn prog (Kcr F) F 89 0 8 Jn4 (Qeg F) := fun d x KQ => by kernel_rfl
theorem Qej (F : Nat) : Jhk prog (Kcr F) F := Ja0 (l := Qei F) rfl (fa (Jal 0 (by kernel_rfl) (by kernel_rfl) (Jah (Kt2 F) (fun _ _ => rfl) (fun _ _ _ _ => rfl))) fz)
theorem Qjl (F : Nat) (x : Jaz K06) (kend : List BV → ZO) : Jam prog (Kcr F) F 20 89 (Jae K06 x) [.d (.arr 32 (.int .u8))] kend = rMac F x.1 x.2.1 none (fun y0 => kend [BV.d (.arr 32 (.int .u8)) y0]) := by kernel_rfl
theorem J27  : Jad prog 89 Kn5 := Jap (B0 := Kjg) bkN bkG Jao bkT Qjl (Jac (fa Kn4 fz)) (by kernel_rfl) (fun _ => rfl) Qej (fun x h => (K7d x.1 x.2.1 h).elim fun F hF => ⟨F, fun kend => hF none _⟩)
end Go.AI
namespace Go.AI
open Go
open Go.Proofs.Tryz (prog)
set_option linter.unusedVariables false
@[reducible] def Kn6  : List PM := [.d (.int .u32), .d (.int .i64)]
def Kt3  : Orc := Orc.of Kn6 true 0 fun x => (J39 x.1 x.2.1, [.d (.int .u32) (Kay x.1 x.2.1)])
def Kjh  : List (FuncId × Orc) := []
theorem Qek (F : Nat) (x : Jaz Kn6) (kend : List BV → ZO) : Jam prog (bkZ Kjh) F 20 169 (Jae Kn6 x) [.d (.int .u32)] kend = Qma F x.1 x.2.1 none (fun y0 => kend [BV.d (.int .u32) y0]) := by kernel_rfl
theorem Kf5  : Jad prog 169 Kt3 := Jap (B0 := bkY Kjh) bkN bkG Jao bkT Qek (Jac fz) (by kernel_rfl) (fun _ => rfl) (bkO _) (fun x h => (Kzd x.1 x.2.1 h).elim fun F hF => ⟨F, fun kend => hF none _⟩)
@[reducible] def Kcs  : List PM := [.d (.arr 32 (.int .u8)), .d (.int .i64), .d (.int .i64)]
def Kji  : Orc := Orc.of Kcs true 0 fun x => (J8t x.1 x.2.1 x.2.2.1, [.d (.arr 16 (.int .u32)) (J8u x.1 x.2.1 x.2.2.1)])
@[reducible] def Jir  : Tpl := { cur := ⟨[(1, .var (.int .i64)), (0, .var (.int .i64)), (0, .ptr 0 []), (2, .ptr 1 []), (0, .ptr 2 []), (0, .var (.int .i64)), (2, .var (.int .i64)), (2, .var (.int .i64))], 31⟩, stk := [⟨[], 0⟩], heap := [.box (.var (.arr 32 (.int .u8))), .box (.var (.arr 16 (.int .u32))), .box (.var (.arr 16 (.int .u32)))] }
@[reducible] def Jis  : Tpl := { cur := ⟨[(1, .var (.int .i64)), (0, .var (.int .i64)), (0, .ptr 0 []), (2, .ptr 1 []), (0, .ptr 2 []), (3, .var (.int .i64))], 34⟩, stk := [⟨[], 0⟩], heap := [.box (.var (.arr 32 (.int .u8))), .box (.var (.arr 16 (.int .u32))), .box (.var (.arr 16 (.int .u32)))] }
def K07  : List (FuncId × Orc) := []
def J6s  : Book := { Γ := gam, orc := Jbc K07, hint := Jav [(143, { keep := some [1, 2, 3, 6, 7, 8, 11, 14], keeps := [(3, [1, 2, 3, 6, 7, 11]), (6, [1, 2, 3, 6, 7, 8, 11, 14])], own := [], dat := [], stk := [] })] }
def K08 (F : Nat) (nx : Jir.T → ZO) (kq : ZK) (x : Jir.T) : ZO := J13 F none (fun nonce counter i s11 s14 key s6 w => nx ((nonce, (counter, ((), ((), ((), (i, (s11, (s14, ())))))))), (((), ()), (key, (s6, (w, ())))))) (fun y0 y1 y2 y3 y4 y5 y6 y7 => kq (.exit 2) (Jir.inst ((y0, (y1, ((), ((), ((), (y2, (y3, (y4, ())))))))), (((), ()), (y5, (y6, (y7, ()))))))) x.1.1 x.1.2.1 x.1.2.2.2.2.2.1 x.1.2.2.2.2.2.2.1 x.1.2.2.2.2.2.2.2.1 x.2.2.1 x.2.2.2.1 x.2.2.2.2.1
def K09 (F m : Nat) (x : Jir.T) (kq : ZK) : ZO := Jjb F none (fun y0 y1 y2 y3 y4 y5 y6 y7 => kq (.exit 2) (Jir.inst ((y0, (y1, ((), ((), ((), (y2, (y3, (y4, ())))))))), (((), ()), (y5, (y6, (y7, ()))))))) m x.1.1 x.1.2.1 x.1.2.2.2.2.2.1 x.1.2.2.2.2.2.2.1 x.1.2.2.2.2.2.2.2.1 x.2.2.1 x.2.2.2.1 x.2.2.2.2.1
def K1a (F : Nat) (nx : Jis.T → ZO) (kq : ZK) (x : Jis.T) : ZO := J14 F none (fun nonce counter s11 key s6 w => nx ((nonce, (counter, ((), ((), ((), (s11, ())))))), (((), ()), (key, (s6, (w, ())))))) (fun y0 y1 y2 y3 y4 y5 => kq (.exit 0) (Jis.inst ((y0, (y1, ((), ((), ((), (y2, ())))))), (((), ()), (y3, (y4, (y5, ()))))))) x.1.1 x.1.2.1 x.1.2.2.2.2.2.1 x.2.2.1 x.2.2.2.1 x.2.2.2.2.1
def K1b (F m : Nat) (x : Jis.T) (kq : ZK) : ZO := Jmx F none (fun y0 y1 y2 y3 y4 y5 => kq (.exit 0) (Jis.inst ((y0, (y1, ((), ((), ((), (y2, ())))))), (((), ()), (y3, (y4, (y5, ()))))))) m x.1.1 x.1.2.1 x.1.2.2.2.2.2.1 x.2.2.1 x.2.2.2.1 x.2.2.2.2.1
def Kt4 (F : Nat) : List (LoE Unit) := [⟨143, 6, LO.of Jir (K09 F F)⟩,
 ⟨143, 3, LO.of Jis (K1b F F)⟩]
def Jsw (F : Nat) : Jbu Unit := { toBook := J6s, lo := Jcf (Kt4 F), need := Jaw [] }
theorem Kf6 (F : Nat) : Jbn prog (Jsw F) F 143 1 6 Jir (K08 F) := fun d x KQ => by kernel_rfl
theorem Kf7 (F : Nat) : Jbn prog (Jsw F) F 143 0 3 Jis (K1a F) := fun d x KQ => by kernel_rfl
theorem K1c (F : Nat) : Jhk prog (Jsw F) F := Ja0 (l := Kt4 F) rfl (fa (Jal 1 (by kernel_rfl) (by kernel_rfl) (Jah (Kf6 F) (fun _ _ => rfl) (fun _ _ _ _ => rfl))) (fa (Jal 0 (by kernel_rfl) (by kernel_rfl) (Jah (Kf7 F) (fun _ _ => rfl) (fun _ _ _ _ => rfl))) fz))
theorem K76 (F : Nat) (x : Jaz Kcs) (kend : List BV → ZO) : Jam prog (Jsw F) F 20 143 (Jae Kcs x) [.d (.arr 16 (.int .u32))] kend = Qb5 F x.1 x.2.1 x.2.2.1 none (fun y0 => kend [BV.d (.arr 16 (.int .u32)) y0]) := by kernel_rfl
theorem Kct  : Jad prog 143 Kji := Jap (B0 := J6s) bkN bkG Jao bkT K76 (Jac fz) (by kernel_rfl) (fun _ => rfl) K1c (fun x h => (Kr2 x.1 x.2.1 x.2.2.1 h).elim fun F hF => ⟨F, fun kend => hF none _⟩)
@[reducible] def K1d  : List PM := [.d (.arr 32 (.int .u8)), .d (.int .i64), .d (.int .i64)]
def K5j  : Orc := Orc.of K1d true 1 fun x => (K32 x.1 x.2.1 x.2.2.1, [.o 5 (.int .u8) (K33 x.1 x.2.1 x.2.2.1)])
@[reducible] def Jn5  : Tpl := { cur := ⟨[(0, .ptr 0 []), (29, .var (.arr 4 (.pair (.int .i64) (.pair (.int .i64) (.pair (.int .i64) (.pair (.int .i64) .unit)))))), (0, .var (.int .i64))], 39⟩, stk := [⟨[(2, .mv 158 (.pr (.ptr 0 []) (.un))), (4, .var (.int .i64)), (1, .var (.int .i64))], 32⟩, ⟨[(7, .ptr 1 []), (0, .ptr 0 [])], 35⟩, ⟨[], 0⟩], heap := [.box (.var (.arr 16 (.int .u32))), .box (.var (.arr 16 (.int .u32)))] }
@[reducible] def Jn6  : Tpl := { cur := ⟨[(2, .mv 158 (.pr (.ptr 0 []) (.un))), (4, .var (.int .i64)), (1, .var (.int .i64))], 32⟩, stk := [⟨[(7, .ptr 1 []), (0, .ptr 0 [])], 35⟩, ⟨[], 0⟩], heap := [.box (.var (.arr 16 (.int .u32))), .box (.var (.arr 16 (.int .u32)))] }
@[reducible] def Jn7  : Tpl := { cur := ⟨[(0, .ptr 0 []), (29, .var (.arr 4 (.pair (.int .i64) (.pair (.int .i64) (.pair (.int .i64) (.pair (.int .i64) .unit)))))), (0, .var (.int .i64))], 39⟩, stk := [⟨[(2, .mv 158 (.pr (.ptr 0 []) (.un))), (4, .var (.int .i64)), (14, .var (.int .i64))], 19⟩, ⟨[(7, .ptr 1 []), (0, .ptr 0 [])], 35⟩, ⟨[], 0⟩], heap := [.box (.var (.arr 16 (.int .u32))), .box (.var (.arr 16 (.int .u32)))] }
@[reducible] def Jn8  : Tpl := { cur := ⟨[(2, .mv 158 (.pr (.ptr 0 []) (.un))), (4, .var (.int .i64)), (14, .var (.int .i64))], 19⟩, stk := [⟨[(7, .ptr 1 []), (0, .ptr 0 [])], 35⟩, ⟨[], 0⟩], heap := [.box (.var (.arr 16 (.int .u32))), .box (.var (.arr 16 (.int .u32)))] }
@[reducible] def Jn9  : Tpl := { cur := ⟨[(2, .mv 158 (.pr (.ptr 0 []) (.un))), (4, .var (.int .i64))], 34⟩, stk := [⟨[(7, .ptr 1 []), (0, .ptr 0 [])], 35⟩, ⟨[], 0⟩], heap := [.box (.var (.arr 16 (.int .u32))), .box (.var (.arr 16 (.int .u32)))] }
@[reducible] def Joa  : Tpl := { cur := ⟨[(7, .ptr 0 []), (1, .row 1), (8, .var (.arr 16 (.int .u32))), (0, .var (.int .i64))], 24⟩, stk := [⟨[], 0⟩], heap := [.box (.var (.arr 16 (.int .u32))), .row 5 (.int .u8) false] }
def Qel  : List (FuncId × Orc) := [(143, Kji), (169, Kt3)]
def Kjj  : Book := { Γ := gam, orc := Jbc Qel, hint := Jav [(106, { keep := some [7, 9, 18, 19], keeps := [(6, [7, 9, 18, 19])], own := [(9, 24)], dat := [], stk := [] }), (144, { keep := some [2, 7, 9, 22], keeps := [(2, [2, 7]), (4, [2, 7, 9]), (9, [2, 7, 22])], own := [], dat := [], stk := [[7, 8]] }), (158, { keep := some [0, 30, 31], keeps := [(2, [0, 30, 31])], own := [], dat := [], stk := [[2, 7, 9, 22], [7, 8]] })] }
def Qem (F : Nat) (nx : Jn5.T → ZO) (kq : ZK) (x : Jn5.T) : ZO := Kl4 F none (fun s30 s31 s7 s9 w w1 => nx (((), (s30, (s31, ()))), (((((), ()), (s7, (s9, ()))), (((), ((), ())), ((), ()))), (w, (w1, ()))))) (fun y0 y1 y2 y3 y4 y5 => kq (.exit 0) (Jn5.inst (((), (y0, (y1, ()))), (((((), ()), (y2, (y3, ()))), (((), ((), ())), ((), ()))), (y4, (y5, ())))))) x.1.2.1 x.1.2.2.1 x.2.1.1.2.1 x.2.1.1.2.2.1 x.2.2.1 x.2.2.2.1
def Qen (F m : Nat) (x : Jn5.T) (kq : ZK) : ZO := Jmb F none (fun y0 y1 y2 y3 y4 y5 => kq (.exit 0) (Jn5.inst (((), (y0, (y1, ()))), (((((), ()), (y2, (y3, ()))), (((), ((), ())), ((), ()))), (y4, (y5, ())))))) m x.1.2.1 x.1.2.2.1 x.2.1.1.2.1 x.2.1.1.2.2.1 x.2.2.1 x.2.2.2.1
def Qeo (F : Nat) (nx : Jn6.T → ZO) (kq : ZK) (x : Jn6.T) : ZO := Kl5 F none (fun s7 s9 change w => nx ((((), ()), (s7, (s9, ()))), ((((), ((), ())), ((), ())), (change, (w, ()))))) (fun y0 y1 y2 y3 => kq (.exit 2) (Jn6.inst ((((), ()), (y0, (y1, ()))), ((((), ((), ())), ((), ())), (y2, (y3, ())))))) x.1.2.1 x.1.2.2.1 x.2.2.1 x.2.2.2.1
def Qep (F m : Nat) (x : Jn6.T) (kq : ZK) : ZO := Jsa F none (fun y0 y1 y2 y3 => kq (.exit 2) (Jn6.inst ((((), ()), (y0, (y1, ()))), ((((), ((), ())), ((), ())), (y2, (y3, ())))))) m x.1.2.1 x.1.2.2.1 x.2.2.1 x.2.2.2.1
def Qeq (F : Nat) (nx : Jn7.T → ZO) (kq : ZK) (x : Jn7.T) : ZO := Kl6 F none (fun s30 s31 s7 s22 w w1 => nx (((), (s30, (s31, ()))), (((((), ()), (s7, (s22, ()))), (((), ((), ())), ((), ()))), (w, (w1, ()))))) (fun y0 y1 y2 y3 y4 y5 => kq (.exit 0) (Jn7.inst (((), (y0, (y1, ()))), (((((), ()), (y2, (y3, ()))), (((), ((), ())), ((), ()))), (y4, (y5, ())))))) x.1.2.1 x.1.2.2.1 x.2.1.1.2.1 x.2.1.1.2.2.1 x.2.2.1 x.2.2.2.1
def Qer (F m : Nat) (x : Jn7.T) (kq : ZK) : ZO := Jmc F none (fun y0 y1 y2 y3 y4 y5 => kq (.exit 0) (Jn7.inst (((), (y0, (y1, ()))), (((((), ()), (y2, (y3, ()))), (((), ((), ())), ((), ()))), (y4, (y5, ())))))) m x.1.2.1 x.1.2.2.1 x.2.1.1.2.1 x.2.1.1.2.2.1 x.2.2.1 x.2.2.2.1
def Qes (F : Nat) (nx : Jn8.T → ZO) (kq : ZK) (x : Jn8.T) : ZO := Kl7 F none (fun s7 s22 change w => nx ((((), ()), (s7, (s22, ()))), ((((), ((), ())), ((), ())), (change, (w, ()))))) (fun y0 y1 y2 y3 => kq (.exit 4) (Jn8.inst ((((), ()), (y0, (y1, ()))), ((((), ((), ())), ((), ())), (y2, (y3, ())))))) x.1.2.1 x.1.2.2.1 x.2.2.1 x.2.2.2.1
def Qet (F m : Nat) (x : Jn8.T) (kq : ZK) : ZO := Jsb F none (fun y0 y1 y2 y3 => kq (.exit 4) (Jn8.inst ((((), ()), (y0, (y1, ()))), ((((), ((), ())), ((), ())), (y2, (y3, ())))))) m x.1.2.1 x.1.2.2.1 x.2.2.1 x.2.2.2.1
def Qeu (F : Nat) (nx : Jn9.T → ZO) (kq : ZK) (x : Jn9.T) : ZO := Kl8 F none (fun s7 change w => nx ((((), ()), (s7, ())), ((((), ((), ())), ((), ())), (change, (w, ()))))) (fun y0 y1 y2 => kq (.exit 0) (Jn9.inst ((((), ()), (y0, ())), ((((), ((), ())), ((), ())), (y1, (y2, ())))))) x.1.2.1 x.2.2.1 x.2.2.2.1
def Qev (F m : Nat) (x : Jn9.T) (kq : ZK) : ZO := Jw5 F none (fun y0 y1 y2 => kq (.exit 0) (Jn9.inst ((((), ()), (y0, ())), ((((), ((), ())), ((), ())), (y1, (y2, ())))))) m x.1.2.1 x.2.2.1 x.2.2.2.1
def Qew (F : Nat) (nx : Joa.T → ZO) (kq : ZK) (x : Joa.T) : ZO := Kl9 F none (fun s18 s19 w out => nx (((), ((), (s18, (s19, ())))), (((), ()), (w, (out, ()))))) (fun y0 y1 y2 y3 => kq (.exit 0) (Joa.inst (((), ((), (y0, (y1, ())))), (((), ()), (y2, (y3, ())))))) x.1.2.2.1 x.1.2.2.2.1 x.2.2.1 x.2.2.2.1
def Qex (F m : Nat) (x : Joa.T) (kq : ZK) : ZO := Jw6 F none (fun y0 y1 y2 y3 => kq (.exit 0) (Joa.inst (((), ((), (y0, (y1, ())))), (((), ()), (y2, (y3, ())))))) m x.1.2.2.1 x.1.2.2.2.1 x.2.2.1 x.2.2.2.1
def Qey (F : Nat) : List (LoE Unit) := [⟨158, 2, LO.orT Jn5 (Qen F F) (LO.of Jn7 (Qer F F))⟩,
 ⟨144, 4, LO.of Jn6 (Qep F F)⟩,
 ⟨144, 9, LO.of Jn8 (Qet F F)⟩,
 ⟨144, 2, LO.of Jn9 (Qev F F)⟩,
 ⟨106, 6, LO.of Joa (Qex F F)⟩]
def Jlo (F : Nat) : Jbu Unit := { toBook := Kjj, lo := Jcf (Qey F), need := Jaw [(144, 1)] }
theorem Kt5 (F : Nat) : Jbn prog (Jlo F) F 158 0 2 Jn5 (Qem F) := fun d x KQ => by kernel_rfl
theorem Kt6 (F : Nat) : Jbn prog (Jlo F) F 144 1 4 Jn6 (Qeo F) := fun d x KQ => by kernel_rfl
theorem Kt7 (F : Nat) : Jbn prog (Jlo F) F 158 0 2 Jn7 (Qeq F) := fun d x KQ => by kernel_rfl
theorem Kt8 (F : Nat) : Jbn prog (Jlo F) F 144 2 9 Jn8 (Qes F) := fun d x KQ => by kernel_rfl
theorem Kt9 (F : Nat) : Jbn prog (Jlo F) F 144 0 2 Jn9 (Qeu F) := fun d x KQ => by kernel_rfl
theorem Kua (F : Nat) : Jbn prog (Jlo F) F 106 0 6 Joa (Qew F) := fun d x KQ => by kernel_rfl
theorem Qez (F : Nat) : Jhk prog (Jlo F) F := Ja0 (l := Qey F) rfl (fa (Jal 0 (by kernel_rfl) (by kernel_rfl) (Kld (Jah (Kt5 F) (fun _ _ => rfl) (fun _ _ _ _ => rfl)) (Jah (Kt7 F) (fun _ _ => rfl) (fun _ _ _ _ => rfl)))) (fa (Jal 1 (by kernel_rfl) (by kernel_rfl) (Jah (Kt6 F) (fun _ _ => rfl) (fun _ _ _ _ => rfl))) (fa (Jal 2 (by kernel_rfl) (by kernel_rfl) (Jah (Kt8 F) (fun _ _ => rfl) (fun _ _ _ _ => rfl))) (fa (Jal 0 (by kernel_rfl) (by kernel_rfl) (Jah (Kt9 F) (fun _ _ => rfl) (fun _ _ _ _ => rfl))) (fa (Jal 0 (by kernel_rfl) (by kernel_rfl) (Jah (Kua F) (fun _ _ => rfl) (fun _ _ _ _ => rfl))) fz)))))
theorem Qjm (F : Nat) (x : Jaz K1d) (kend : List BV → ZO) : Jam prog (Jlo F) F 20 106 (Jae K1d x) [.o 5 (.int .u8)] kend = cBlk F x.1 x.2.1 x.2.2.1 none (fun y0 => kend [BV.o 5 (.int .u8) y0]) := by kernel_rfl
theorem Kn7  : Jad prog 106 K5j := Jap (B0 := Kjj) bkN bkG Jao bkT Qjm (Jac (fa Kct (fa Kf5 fz))) (by kernel_rfl) (fun _ => rfl) Qez (fun x h => (K7e x.1 x.2.1 x.2.2.1 h).elim fun F hF => ⟨F, fun kend => hF none _⟩)
@[reducible] def Kcu  : List PM := [.d (.int .i64)]
def J45  : Orc := Orc.of Kcu true 0 fun x => (true, [.d .bool (Jrs x.1)])
def Kcv  : List (FuncId × Orc) := []
theorem K77 (F : Nat) (x : Jaz Kcu) (kend : List BV → ZO) : Jam prog (bkZ Kcv) F 20 104 (Jae Kcu x) [.d .bool] kend = Qb6 F x.1 none (fun y0 => kend [BV.d .bool y0]) := by kernel_rfl
theorem Jvf  : Jad prog 104 J45 := Jap (B0 := bkY Kcv) bkN bkG Jao bkT K77 (Jac fz) (by kernel_rfl) (fun _ => rfl) (bkO _) (fun x _ => (Kr4 x.1).elim fun F hF => ⟨F, fun kend => hF none _⟩)
@[reducible] def Kn8  : List PM := [.d (.int .u32), .d (.int .i64)]
def Kub  : Orc := Orc.of Kn8 true 0 fun x => (Jib x.1 x.2.1, [.d (.int .u32) (Jj8 x.1 x.2.1)])
@[reducible] def Jkk  : Tpl := { cur := ⟨[(0, .var (.int .u32)), (0, .var (.int .i64)), (3, .var (.int .i64))], 11⟩, stk := [⟨[], 0⟩], heap := [] }
def K78  : List (FuncId × Orc) := []
def Kcw  : Book := { Γ := gam, orc := Jbc K78, hint := Jav [(155, { keep := some [0, 1, 5], keeps := [(2, [0, 1, 5])], own := [], dat := [], stk := [] })] }
def K79 (F : Nat) (nx : Jkk.T → ZO) (kq : ZK) (x : Jkk.T) : ZO := J83 F none (fun x_ n i => nx ((x_, (n, (i, ()))), (((), ()), ()))) (fun y0 y1 y2 => kq (.exit 0) (Jkk.inst ((y0, (y1, (y2, ()))), (((), ()), ())))) x.1.1 x.1.2.1 x.1.2.2.1
def K8a (F m : Nat) (x : Jkk.T) (kq : ZK) : ZO := Jqm F none (fun y0 y1 y2 => kq (.exit 0) (Jkk.inst ((y0, (y1, (y2, ()))), (((), ()), ())))) m x.1.1 x.1.2.1 x.1.2.2.1
def K5k (F : Nat) : List (LoE Unit) := [⟨155, 2, LO.of Jkk (K8a F F)⟩]
def J46 (F : Nat) : Jbu Unit := { toBook := Kcw, lo := Jcf (K5k F), need := Jaw [] }
theorem Kn9 (F : Nat) : Jbn prog (J46 F) F 155 0 2 Jkk (K79 F) := fun d x KQ => by kernel_rfl
theorem K8b (F : Nat) : Jhk prog (J46 F) F := Ja0 (l := K5k F) rfl (fa (Jal 0 (by kernel_rfl) (by kernel_rfl) (Jah (Kn9 F) (fun _ _ => rfl) (fun _ _ _ _ => rfl))) fz)
theorem Qe0 (F : Nat) (x : Jaz Kn8) (kend : List BV → ZO) : Jam prog (J46 F) F 20 155 (Jae Kn8 x) [.d (.int .u32)] kend = Qmb F x.1 x.2.1 none (fun y0 => kend [BV.d (.int .u32) y0]) := by kernel_rfl
theorem Kf8  : Jad prog 155 Kub := Jap (B0 := Kcw) bkN bkG Jao bkT Qe0 (Jac fz) (by kernel_rfl) (fun _ => rfl) K8b (fun x h => (Kzc x.1 x.2.1 h).elim fun F hF => ⟨F, fun kend => hF none _⟩)
@[reducible] def Kcx  : List PM := [.d (.arr 32 (.int .u8)), .d (.int .i64), .d (.int .i64)]
def Kjk  : Orc := Orc.of Kcx true 1 fun x => (Jwm x.1 x.2.1 x.2.2.1, [.o 173 (.int .u32) (J8v x.1 x.2.1 x.2.2.1)])
@[reducible] def Jit  : Tpl := { cur := ⟨[(1, .var (.int .i64)), (0, .var (.int .i64)), (0, .ptr 0 []), (3, .row 1), (0, .var (.int .i64))], 48⟩, stk := [⟨[], 0⟩], heap := [.box (.var (.arr 32 (.int .u8))), .row 173 (.int .u32) false] }
def K1e  : List (FuncId × Orc) := []
def J6t  : Book := { Γ := gam, orc := Jbc K1e, hint := Jav [(134, { keep := some [1, 2, 3, 7, 8], keeps := [(3, [1, 2, 3, 7, 8])], own := [], dat := [], stk := [] })] }
def K1f (F : Nat) (nx : Jit.T → ZO) (kq : ZK) (x : Jit.T) : ZO := J15 F none (fun nonce counter i key w => nx ((nonce, (counter, ((), ((), (i, ()))))), (((), ()), (key, (w, ()))))) (fun y0 y1 y2 y3 y4 => kq (.exit 0) (Jit.inst ((y0, (y1, ((), ((), (y2, ()))))), (((), ()), (y3, (y4, ())))))) x.1.1 x.1.2.1 x.1.2.2.2.2.1 x.2.2.1 x.2.2.2.1
def K1g (F m : Nat) (x : Jit.T) (kq : ZK) : ZO := Jmy F none (fun y0 y1 y2 y3 y4 => kq (.exit 0) (Jit.inst ((y0, (y1, ((), ((), (y2, ()))))), (((), ()), (y3, (y4, ())))))) m x.1.1 x.1.2.1 x.1.2.2.2.2.1 x.2.2.1 x.2.2.2.1
def Kuc (F : Nat) : List (LoE Unit) := [⟨134, 3, LO.of Jit (K1g F F)⟩]
def Jz3 (F : Nat) : Jbu Unit := { toBook := J6t, lo := Jcf (Kuc F), need := Jaw [] }
theorem Kf9 (F : Nat) : Jbn prog (Jz3 F) F 134 0 3 Jit (K1f F) := fun d x KQ => by kernel_rfl
theorem K1h (F : Nat) : Jhk prog (Jz3 F) F := Ja0 (l := Kuc F) rfl (fa (Jal 0 (by kernel_rfl) (by kernel_rfl) (Jah (Kf9 F) (fun _ _ => rfl) (fun _ _ _ _ => rfl))) fz)
theorem K8c (F : Nat) (x : Jaz Kcx) (kend : List BV → ZO) : Jam prog (Jz3 F) F 20 134 (Jae Kcx x) [.o 173 (.int .u32)] kend = Qb7 F x.1 x.2.1 x.2.2.1 none (fun y0 => kend [BV.o 173 (.int .u32) y0]) := by kernel_rfl
theorem Kcy  : Jad prog 134 Kjk := Jap (B0 := J6t) bkN bkG Jao bkT K8c (Jac fz) (by kernel_rfl) (fun _ => rfl) K1h (fun x h => (Kr3 x.1 x.2.1 x.2.2.1 h).elim fun F hF => ⟨F, fun kend => hF none _⟩)
@[reducible] def J47  : List PM := [.d (.int .i64), .d (.int .i64)]
def Jz4  : Orc := Orc.of J47 true 1 fun x => (Jnj x.1 x.2.1, [.o 5 (.int .u8) (Jjo x.1 x.2.1)])
@[reducible] def Jha  : Tpl := { cur := ⟨[(0, .var (.int .i64)), (0, .var (.int .i64)), (3, .row 0), (0, .var (.int .i64))], 14⟩, stk := [⟨[], 0⟩], heap := [.row 5 (.int .u8) false] }
def Kud  : List (FuncId × Orc) := []
def J28  : Book := { Γ := gam, orc := Jbc Kud, hint := Jav [(90, { keep := some [0, 1, 5, 6], keeps := [(3, [0, 1, 5, 6])], own := [(5, 24)], dat := [], stk := [] })] }
def Kue (F : Nat) (nx : Jha.T → ZO) (kq : ZK) (x : Jha.T) : ZO := Jw8 F none (fun n bytes i out => nx ((n, (bytes, ((), (i, ())))), (((), ()), (out, ())))) (fun y0 y1 y2 y3 => kq (.exit 0) (Jha.inst ((y0, (y1, ((), (y2, ())))), (((), ()), (y3, ()))))) x.1.1 x.1.2.1 x.1.2.2.2.1 x.2.2.1
def Kuf (F m : Nat) (x : Jha.T) (kq : ZK) : ZO := Jkg F none (fun y0 y1 y2 y3 => kq (.exit 0) (Jha.inst ((y0, (y1, ((), (y2, ())))), (((), ()), (y3, ()))))) m x.1.1 x.1.2.1 x.1.2.2.2.1 x.2.2.1
def Kjl (F : Nat) : List (LoE Unit) := [⟨90, 3, LO.of Jha (Kuf F F)⟩]
def Jvg (F : Nat) : Jbu Unit := { toBook := J28, lo := Jcf (Kjl F), need := Jaw [] }
theorem Kcz (F : Nat) : Jbn prog (Jvg F) F 90 0 3 Jha (Kue F) := fun d x KQ => by kernel_rfl
theorem Kug (F : Nat) : Jhk prog (Jvg F) F := Ja0 (l := Kjl F) rfl (fa (Jal 0 (by kernel_rfl) (by kernel_rfl) (Jah (Kcz F) (fun _ _ => rfl) (fun _ _ _ _ => rfl))) fz)
theorem K1i (F : Nat) (x : Jaz J47) (kend : List BV → ZO) : Jam prog (Jvg F) F 20 90 (Jae J47 x) [.o 5 (.int .u8)] kend = Kyl F x.1 x.2.1 none (fun y0 => kend [BV.o 5 (.int .u8) y0]) := by kernel_rfl
theorem Jtg  : Jad prog 90 Jz4 := Jap (B0 := J28) bkN bkG Jao bkT K1i (Jac fz) (by kernel_rfl) (fun _ => rfl) Kug (fun x h => (Kmz x.1 x.2.1 h).elim fun F hF => ⟨F, fun kend => hF none _⟩)
@[reducible] def J48  : List PM := [.d (.int .i64)]
def Jsx  : Orc := Orc.of J48 true 0 fun x => (true, [.d .bool (Jjp x.1)])
def J6u  : List (FuncId × Orc) := []
theorem K1j (F : Nat) (x : Jaz J48) (kend : List BV → ZO) : Jam prog (bkZ J6u) F 20 42 (Jae J48 x) [.d .bool] kend = Kym F x.1 none (fun y0 => kend [BV.d .bool y0]) := by kernel_rfl
theorem Jlx  : Jad prog 42 Jsx := Jap (B0 := bkY J6u) bkN bkG Jao bkT K1j (Jac fz) (by kernel_rfl) (fun _ => rfl) (bkO _) (fun x _ => (Kmx x.1).elim fun F hF => ⟨F, fun kend => hF none _⟩)
@[reducible] def Kc0  : List PM := [.d (.arr 32 (.int .u8)), .d (.int .i64), .d (.int .i64)]
def Kjm  : Orc := Orc.of Kc0 true 1 fun x => (J8w x.1 x.2.1 x.2.2.1, [.o 5 (.int .u8) (Jjq x.1 x.2.1 x.2.2.1), .d (.int .i64) (Kaz x.1 x.2.1 x.2.2.1)])
@[reducible] def Jiu  : Tpl := { cur := ⟨[(8, .row 0), (0, .row 1), (0, .var (.int .i64)), (0, .var (.int .i64))], 76⟩, stk := [⟨[], 0⟩], heap := [.row 173 (.int .u32) false, .row 173 (.int .u32) false] }
@[reducible] def Jiv  : Tpl := { cur := ⟨[(8, .row 0), (0, .row 1), (0, .var (.int .i64)), (1, .var (.int .i64))], 75⟩, stk := [⟨[], 0⟩], heap := [.row 173 (.int .u32) false, .row 173 (.int .u32) false] }
@[reducible] def Jiw  : Tpl := { cur := ⟨[(8, .row 0), (0, .row 1), (0, .var (.int .i64))], 77⟩, stk := [⟨[], 0⟩], heap := [.row 173 (.int .u32) false, .row 173 (.int .u32) false] }
@[reducible] def Jix  : Tpl := { cur := ⟨[(8, .row 0), (0, .row 1), (3, .row 2), (0, .var (.int .i64))], 73⟩, stk := [⟨[], 0⟩], heap := [.row 173 (.int .u32) false, .row 173 (.int .u32) false, .row 5 (.int .u8) false] }
def K1k  : List (FuncId × Orc) := [(42, Jsx), (90, Jz4), (134, Kjk), (155, Kub)]
def J6v  : Book := { Γ := gam, orc := Jbc K1k, hint := Jav [(91, { keep := some [8, 9, 10, 11, 12, 13, 14], keeps := [(5, [8, 9, 10]), (8, [8, 9, 10, 11]), (12, [8, 9, 10, 12]), (17, [8, 9, 13, 14])], own := [(13, 24)], dat := [], stk := [] })] }
def K1l (F : Nat) (nx : Jiu.T → ZO) (kq : ZK) (x : Jiu.T) : ZO := J16 F none (fun i k before w => nx (((), ((), (i, (k, ())))), (((), ()), (before, (w, ()))))) (fun y0 y1 y2 y3 => kq (.exit 2) (Jiu.inst (((), ((), (y0, (y1, ())))), (((), ()), (y2, (y3, ())))))) x.1.2.2.1 x.1.2.2.2.1 x.2.2.1 x.2.2.2.1
def K1m (F m : Nat) (x : Jiu.T) (kq : ZK) : ZO := Jjc F none (fun y0 y1 y2 y3 => kq (.exit 2) (Jiu.inst (((), ((), (y0, (y1, ())))), (((), ()), (y2, (y3, ())))))) m x.1.2.2.1 x.1.2.2.2.1 x.2.2.1 x.2.2.2.1
def K1n (F : Nat) (nx : Jiv.T → ZO) (kq : ZK) (x : Jiv.T) : ZO := J17 F none (fun i k before w => nx (((), ((), (i, (k, ())))), (((), ()), (before, (w, ()))))) (fun y0 y1 y2 y3 => kq (.exit 4) (Jiv.inst (((), ((), (y0, (y1, ())))), (((), ()), (y2, (y3, ())))))) x.1.2.2.1 x.1.2.2.2.1 x.2.2.1 x.2.2.2.1
def K1o (F m : Nat) (x : Jiv.T) (kq : ZK) : ZO := Jjd F none (fun y0 y1 y2 y3 => kq (.exit 4) (Jiv.inst (((), ((), (y0, (y1, ())))), (((), ()), (y2, (y3, ())))))) m x.1.2.2.1 x.1.2.2.2.1 x.2.2.1 x.2.2.2.1
def K1p (F : Nat) (nx : Jiw.T → ZO) (kq : ZK) (x : Jiw.T) : ZO := J18 F none (fun i before w => nx (((), ((), (i, ()))), (((), ()), (before, (w, ()))))) (fun y0 y1 y2 => kq (.exit 0) (Jiw.inst (((), ((), (y0, ()))), (((), ()), (y1, (y2, ())))))) x.1.2.2.1 x.2.2.1 x.2.2.2.1
def K1q (F m : Nat) (x : Jiw.T) (kq : ZK) : ZO := Jmz F none (fun y0 y1 y2 => kq (.exit 0) (Jiw.inst (((), ((), (y0, ()))), (((), ()), (y1, (y2, ())))))) m x.1.2.2.1 x.2.2.1 x.2.2.2.1
def K1r (F : Nat) (nx : Jix.T → ZO) (kq : ZK) (x : Jix.T) : ZO := J19 F none (fun i before w out => nx (((), ((), ((), (i, ())))), (((), ()), (before, (w, (out, ())))))) (fun y0 y1 y2 y3 => kq (.exit 6) (Jix.inst (((), ((), ((), (y0, ())))), (((), ()), (y1, (y2, (y3, ()))))))) x.1.2.2.2.1 x.2.2.1 x.2.2.2.1 x.2.2.2.2.1
def K1s (F m : Nat) (x : Jix.T) (kq : ZK) : ZO := Jm0 F none (fun y0 y1 y2 y3 => kq (.exit 6) (Jix.inst (((), ((), ((), (y0, ())))), (((), ()), (y1, (y2, (y3, ()))))))) m x.1.2.2.2.1 x.2.2.1 x.2.2.2.1 x.2.2.2.2.1
def Kuh (F : Nat) : List (LoE Unit) := [⟨91, 8, LO.of Jiu (K1m F F)⟩,
 ⟨91, 12, LO.of Jiv (K1o F F)⟩,
 ⟨91, 5, LO.of Jiw (K1q F F)⟩,
 ⟨91, 17, LO.of Jix (K1s F F)⟩]
def Jkl (F : Nat) : Jbu Unit := { toBook := J6v, lo := Jcf (Kuh F), need := Jaw [(91, 1)] }
theorem Kga (F : Nat) : Jbn prog (Jkl F) F 91 1 8 Jiu (K1l F) := fun d x KQ => by kernel_rfl
theorem Kgb (F : Nat) : Jbn prog (Jkl F) F 91 2 12 Jiv (K1n F) := fun d x KQ => by kernel_rfl
theorem Kgc (F : Nat) : Jbn prog (Jkl F) F 91 0 5 Jiw (K1p F) := fun d x KQ => by kernel_rfl
theorem Kgd (F : Nat) : Jbn prog (Jkl F) F 91 3 17 Jix (K1r F) := fun d x KQ => by kernel_rfl
theorem K1t (F : Nat) : Jhk prog (Jkl F) F := Ja0 (l := Kuh F) rfl (fa (Jal 1 (by kernel_rfl) (by kernel_rfl) (Jah (Kga F) (fun _ _ => rfl) (fun _ _ _ _ => rfl))) (fa (Jal 2 (by kernel_rfl) (by kernel_rfl) (Jah (Kgb F) (fun _ _ => rfl) (fun _ _ _ _ => rfl))) (fa (Jal 0 (by kernel_rfl) (by kernel_rfl) (Jah (Kgc F) (fun _ _ => rfl) (fun _ _ _ _ => rfl))) (fa (Jal 3 (by kernel_rfl) (by kernel_rfl) (Jah (Kgd F) (fun _ _ => rfl) (fun _ _ _ _ => rfl))) fz))))
theorem K8d (F : Nat) (x : Jaz Kc0) (kend : List BV → ZO) : Jam prog (Jkl F) F 20 91 (Jae Kc0 x) [.o 5 (.int .u8), .d (.int .i64)] kend = Qb8 F x.1 x.2.1 x.2.2.1 none (fun y0 y1 => kend [BV.o 5 (.int .u8) y0, BV.d (.int .i64) y1]) := by kernel_rfl
theorem Kc1  : Jad prog 91 Kjm := Jap (B0 := J6v) bkN bkG Jao bkT K8d (Jac (fa Jlx (fa Jtg (fa Kcy (fa Kf8 fz))))) (by kernel_rfl) (fun _ => rfl) K1t (fun x h => (Kr5 x.1 x.2.1 x.2.2.1 h).elim fun F hF => ⟨F, fun kend => hF none _⟩)
end Go.AI
namespace Go.AI
open Go
open Go.Proofs.Tryz (prog)
set_option linter.unusedVariables false
@[reducible] def Jsy  : List PM := [.d (.slc (.int .u8)), .d (.slc (.int .u8))]
def Jym  : Orc := Orc.of Jsy true 0 fun x => (Ji4 x.1 x.2.1, [.d .bool (Ji5 x.1 x.2.1)])
@[reducible] def Jc5  : Tpl := { cur := ⟨[(0, .var (.slc (.int .u8))), (0, .var (.slc (.int .u8))), (2, .var .bool), (7, .var (.int .i64)), (0, .var (.int .i64))], 12⟩, stk := [⟨[], 0⟩], heap := [] }
def Kc2  : List (FuncId × Orc) := []
def Jth  : Book := { Γ := gam, orc := Jbc Kc2, hint := Jav [(117, { keep := some [0, 1, 4, 12, 13], keeps := [(4, [0, 1, 4, 12, 13])], own := [], dat := [], stk := [] })] }
def Kc3 (F : Nat) (nx : Jc5.T → ZO) (kq : ZK) (x : Jc5.T) : ZO := Jma F none (fun s1 s2 s4 s12 s13 => nx ((s1, (s2, (s4, (s12, (s13, ()))))), (((), ()), ()))) (fun y0 y1 y2 y3 y4 => kq .ret (Jc5.inst ((y0, (y1, (y2, (y3, (y4, ()))))), (((), ()), ())))) (fun y0 y1 y2 y3 y4 => kq (.exit 0) (Jc5.inst ((y0, (y1, (y2, (y3, (y4, ()))))), (((), ()), ())))) x.1.1 x.1.2.1 x.1.2.2.1 x.1.2.2.2.1 x.1.2.2.2.2.1
def Kc4 (F m : Nat) (x : Jc5.T) (kq : ZK) : ZO := Jgg F none (fun y0 y1 y2 y3 y4 => kq .ret (Jc5.inst ((y0, (y1, (y2, (y3, (y4, ()))))), (((), ()), ())))) (fun y0 y1 y2 y3 y4 => kq (.exit 0) (Jc5.inst ((y0, (y1, (y2, (y3, (y4, ()))))), (((), ()), ())))) m x.1.1 x.1.2.1 x.1.2.2.1 x.1.2.2.2.1 x.1.2.2.2.2.1
def J29 (F : Nat) : List (LoE Unit) := [⟨117, 4, LO.of Jc5 (Kc4 F F)⟩]
def Job (F : Nat) : Jbu Unit := { toBook := Jth, lo := Jcf (J29 F), need := Jaw [] }
theorem J3a (F : Nat) : Jbn prog (Job F) F 117 0 4 Jc5 (Kc3 F) := fun d x KQ => by kernel_rfl
theorem Kc5 (F : Nat) : Jhk prog (Job F) F := Ja0 (l := J29 F) rfl (fa (Jal 0 (by kernel_rfl) (by kernel_rfl) (Jah (J3a F) (fun _ _ => rfl) (fun _ _ _ _ => rfl))) fz)
theorem Kge (F : Nat) (x : Jaz Jsy) (kend : List BV → ZO) : Jam prog (Job F) F 20 117 (Jae Jsy x) [.d .bool] kend = J4i F x.1 x.2.1 none (fun y0 => kend [BV.d .bool y0]) := by kernel_rfl
theorem Jz5  : Jad prog 117 Jym := Jap (B0 := Jth) bkN bkG Jao bkT Kge (Jac fz) (by kernel_rfl) (fun _ => rfl) Kc5 (fun x h => (J7m x.1 x.2.1 h).elim fun F hF => ⟨F, fun kend => hF none _⟩)
@[reducible] def J49  : List PM := [.d (.arr 32 (.int .u8)), .d (.int .i64), .d (.slc (.int .u8))]
def Jz6  : Orc := Orc.of J49 true 1 fun x => (Jnh x.1 x.2.1 x.2.2.1, [.o 5 (.int .u8) (Jj7 x.1 x.2.1 x.2.2.1), .d (.int .i64) (Jhn x.1 x.2.1 x.2.2.1)])
@[reducible] def Jhb  : Tpl := { cur := ⟨[(9, .ptr 0 []), (0, .sl 1), (0, .row 2), (19, .var (.int .i64)), (0, .var (.int .i64))], 16⟩, stk := [⟨[(0, .hnd .yield 3)], 0⟩, ⟨[(0, .hnd .yield 3), (0, .ptr 6 []), (0, .ptr 7 []), (1, .var (.int .i64))], 26⟩, ⟨[(0, .hnd .yield 3)], 0⟩, ⟨[(2, .var (.slc (.int .u8))), (0, .ptr 4 []), (0, .ptr 5 []), (1, .nils), (0, .var (.int .i64)), (0, .row 1), (0, .ptr 0 [])], 39⟩, ⟨[], 0⟩], heap := [.box (.var (.int .i64)), .row 5 (.int .u8) false, .row 5 (.int .u8) false, .lp 56 8 ⟨[(3, .ptr 4 []), (0, .ptr 5 []), (4, .ptr 0 [])], 39⟩ .busy, .box (.var (.arr 32 (.int .u8))), .box (.var (.int .i64)), .box (.row 1), .box (.var (.int .i64))] }
@[reducible] def Jhc  : Tpl := { cur := ⟨[(0, .hnd .yield 0), (0, .ptr 4 []), (0, .ptr 6 []), (1, .var (.int .i64))], 26⟩, stk := [⟨[(0, .hnd .yield 0)], 0⟩, ⟨[(2, .var (.slc (.int .u8))), (0, .ptr 1 []), (0, .ptr 2 []), (1, .nils), (0, .var (.int .i64)), (0, .row 5), (0, .ptr 3 [])], 39⟩, ⟨[], 0⟩], heap := [.lp 56 8 ⟨[(3, .ptr 1 []), (0, .ptr 2 []), (4, .ptr 3 [])], 39⟩ .ready, .box (.var (.arr 32 (.int .u8))), .box (.var (.int .i64)), .box (.var (.int .i64)), .box (.row 5), .row 5 (.int .u8) false, .box (.var (.int .i64))] }
def Kui  : List (FuncId × Orc) := [(100, Jgh), (104, J45), (106, K5j)]
def J3b  : Book := { Γ := gam, orc := Jbc Kui, hint := Jav [(56, { keep := some [9, 10, 11, 31, 32], keeps := [(11, [9, 10, 11, 31, 32])], own := [], dat := [], stk := [[0], [0, 1, 2, 4], [0], [2, 3, 4, 6, 7, 8, 9, 10, 11, 12, 25, 31, 32, 33]] }), (142, { keep := some [0, 1, 2, 4], keeps := [(1, [0, 1, 2, 4])], own := [], dat := [], stk := [[0], [2, 3, 4, 6, 7, 8, 9, 10, 11, 12, 25, 31, 32, 33]] })] }
def Kuj (F : Nat) (nx : Jhb.T → ZO) (kq : ZK) (x : Jhb.T) : ZO := Jw7 F none (fun part_i part_n s31 s32 i b s7 counter part s key nonce s2 => nx (((), ((part_i, part_n), ((), (s31, (s32, ()))))), ((((), ()), (((), ((), ((), (i, ())))), (((), ()), ((b, ((), ((), ((), (s7, ((), ((), ()))))))), ((), ()))))), (counter, (part, (s, (((), ((), ((), ()))), (key, (nonce, ((), (s2, ()))))))))))) (fun y0 y1 y2 y3 y4 y5 y6 y7 y8 y9 y10 y11 y12 => kq (.exit 3) (Jhb.inst (((), ((y0, y1), ((), (y2, (y3, ()))))), ((((), ()), (((), ((), ((), (y4, ())))), (((), ()), ((y5, ((), ((), ((), (y6, ((), ((), ()))))))), ((), ()))))), (y7, (y8, (y9, (((), ((), ((), ()))), (y10, (y11, ((), (y12, ())))))))))))) x.1.2.1.1 x.1.2.1.2 x.1.2.2.2.1 x.1.2.2.2.2.1 x.2.1.2.1.2.2.2.1 x.2.1.2.2.2.1.1 x.2.1.2.2.2.1.2.2.2.2.1 x.2.2.1 x.2.2.2.1 x.2.2.2.2.1 x.2.2.2.2.2.2.1 x.2.2.2.2.2.2.2.1 x.2.2.2.2.2.2.2.2.2.1
def Kuk (F m : Nat) (x : Jhb.T) (kq : ZK) : ZO := Jkf F none (fun y0 y1 y2 y3 y4 y5 y6 y7 y8 y9 y10 y11 y12 => kq (.exit 3) (Jhb.inst (((), ((y0, y1), ((), (y2, (y3, ()))))), ((((), ()), (((), ((), ((), (y4, ())))), (((), ()), ((y5, ((), ((), ((), (y6, ((), ((), ()))))))), ((), ()))))), (y7, (y8, (y9, (((), ((), ((), ()))), (y10, (y11, ((), (y12, ())))))))))))) m x.1.2.1.1 x.1.2.1.2 x.1.2.2.2.1 x.1.2.2.2.2.1 x.2.1.2.1.2.2.2.1 x.2.1.2.2.2.1.1 x.2.1.2.2.2.1.2.2.2.2.1 x.2.2.1 x.2.2.2.1 x.2.2.2.2.1 x.2.2.2.2.2.2.1 x.2.2.2.2.2.2.2.1 x.2.2.2.2.2.2.2.2.2.1
def Kul (F : Nat) (nx : Jhc.T → ZO) (kq : ZK) (x : Jhc.T) : ZO := Jql F none (fun i b s7 key nonce counter out s2 => nx (((), ((), ((), (i, ())))), ((((), ()), ((b, ((), ((), ((), (s7, ((), ((), ()))))))), ((), ()))), (((), ((), ((), ()))), (key, (nonce, (counter, ((), (out, (s2, ())))))))))) (fun y0 y1 y2 y3 y4 y5 y6 y7 => kq (.exit 0) (Jhc.inst (((), ((), ((), (y0, ())))), ((((), ()), ((y1, ((), ((), ((), (y2, ((), ((), ()))))))), ((), ()))), (((), ((), ((), ()))), (y3, (y4, (y5, ((), (y6, (y7, ()))))))))))) x.1.2.2.2.1 x.2.1.2.1.1 x.2.1.2.1.2.2.2.2.1 x.2.2.2.1 x.2.2.2.2.1 x.2.2.2.2.2.1 x.2.2.2.2.2.2.2.1 x.2.2.2.2.2.2.2.2.1
def Kum (F m : Nat) (x : Jhc.T) (kq : ZK) : ZO := Jid F none (fun y0 y1 y2 y3 y4 y5 y6 y7 => kq (.exit 0) (Jhc.inst (((), ((), ((), (y0, ())))), ((((), ()), ((y1, ((), ((), ((), (y2, ((), ((), ()))))))), ((), ()))), (((), ((), ((), ()))), (y3, (y4, (y5, ((), (y6, (y7, ()))))))))))) m x.1.2.2.2.1 x.2.1.2.1.1 x.2.1.2.1.2.2.2.2.1 x.2.2.2.1 x.2.2.2.2.1 x.2.2.2.2.2.1 x.2.2.2.2.2.2.2.1 x.2.2.2.2.2.2.2.2.1
def Kjn (F : Nat) : List (LoE Unit) := [⟨56, 11, LO.of Jhb (Kuk F F)⟩,
 ⟨142, 1, LO.of Jhc (Kum F F)⟩]
def Jpl (F : Nat) : Jbu Unit := { toBook := J3b, lo := Jcf (Kjn F), need := Jaw [(142, 1)] }
theorem Kc6 (F : Nat) : Jbn prog (Jpl F) F 56 0 11 Jhb (Kuj F) := fun d x KQ => by kernel_rfl
theorem Kc7 (F : Nat) : Jbn prog (Jpl F) F 142 0 1 Jhc (Kul F) := fun d x KQ => by kernel_rfl
theorem Kun (F : Nat) : Jhk prog (Jpl F) F := Ja0 (l := Kjn F) rfl (fa (Jal 0 (by kernel_rfl) (by kernel_rfl) (Jah (Kc6 F) (fun _ _ => rfl) (fun _ _ _ _ => rfl))) (fa (Jal 0 (by kernel_rfl) (by kernel_rfl) (Jah (Kc7 F) (fun _ _ => rfl) (fun _ _ _ _ => rfl))) fz))
theorem K1u (F : Nat) (x : Jaz J49) (kend : List BV → ZO) : Jam prog (Jpl F) F 20 56 (Jae J49 x) [.o 5 (.int .u8), .d (.int .i64)] kend = Kyk F x.1 x.2.1 x.2.2.1 none (fun y0 y1 => kend [BV.o 5 (.int .u8) y0, BV.d (.int .i64) y1]) := by kernel_rfl
theorem Jti  : Jad prog 56 Jz6 := Jap (B0 := J3b) bkN bkG Jao bkT K1u (Jac (fa Jed (fa Jvf (fa Kn7 fz)))) (by kernel_rfl) (fun _ => rfl) Kun (fun x h => (Km1 x.1 x.2.1 x.2.2.1 h).elim fun F hF => ⟨F, fun kend => hF none _⟩)
@[reducible] def Koa  : List PM := [.d (.slc (.int .u8))]
def Kc8  : Orc := Orc.of Koa true 0 fun x => (Jrt x.1, [.d (.arr 32 (.int .u8)) (Jgj x.1), .d (.arr 32 (.int .u8)) (Jh3 x.1)])
def Kjo  : List (FuncId × Orc) := [(103, J9k)]
theorem Qe1 (F : Nat) (x : Jaz Koa) (kend : List BV → ZO) : Jam prog (bkZ Kjo) F 20 55 (Jae Koa x) [.d (.arr 32 (.int .u8)), .d (.arr 32 (.int .u8))] kend = Ql5 F x.1 none (fun y0 y1 => kend [BV.d (.arr 32 (.int .u8)) y0, BV.d (.arr 32 (.int .u8)) y1]) := by kernel_rfl
theorem Jyn  : Jad prog 55 Kc8 := Jap (B0 := bkY Kjo) bkN bkG Jao bkT Qe1 (Jac (fa Jsv fz)) (by kernel_rfl) (fun _ => rfl) (bkO _) (fun x h => (Kzf x.1 h).elim fun F hF => ⟨F, fun kend => hF none _⟩)
@[reducible] def K1v  : List PM := [.d (.arr 32 (.int .u8)), .d (.int .i64), .d (.slc (.int .u8))]
def K5l  : Orc := Orc.of K1v false 0 fun x => (J6d x.1 x.2.1 x.2.2.1, [.d (.slc (.int .u8)) (J6e x.1 x.2.1 x.2.2.1)])
@[reducible] def Joc  : Tpl := { cur := ⟨[(1, .var (.int .i64)), (0, .var (.slc (.int .u8))), (0, .ptr 0 []), (3, .row 1), (2, .var (.int .i64))], 17⟩, stk := [⟨[], 0⟩], heap := [.box (.var (.arr 32 (.int .u8))), .row 5 (.int .u8) false] }
def Qe2  : List (FuncId × Orc) := [(103, J9k)]
def Kjp  : Book := { Γ := gam, orc := Jbc Qe2, hint := Jav [(57, { keep := some [1, 2, 3, 7, 10], keeps := [(3, [1, 2, 3, 7, 10])], own := [(7, 24)], dat := [], stk := [] })] }
def Qe3 (F : Nat) (nx : Joc.T → ZO) (kq : ZK) (x : Joc.T) : ZO := Kl1 F none (fun nonce b s10 key l => nx ((nonce, (b, ((), ((), (s10, ()))))), (((), ()), (key, (l, ()))))) (fun y0 y1 y2 y3 y4 => kq (.exit 0) (Joc.inst ((y0, (y1, ((), ((), (y2, ()))))), (((), ()), (y3, (y4, ())))))) x.1.1 x.1.2.1 x.1.2.2.2.2.1 x.2.2.1 x.2.2.2.1
def Qe4 (F m : Nat) (x : Joc.T) (kq : ZK) : ZO := Jw2 F none (fun y0 y1 y2 y3 y4 => kq (.exit 0) (Joc.inst ((y0, (y1, ((), ((), (y2, ()))))), (((), ()), (y3, (y4, ())))))) m x.1.1 x.1.2.1 x.1.2.2.2.2.1 x.2.2.1 x.2.2.2.1
def Qe5 (F : Nat) : List (LoE Unit) := [⟨57, 3, LO.of Joc (Qe4 F F)⟩]
def Kc9 (F : Nat) : Jbu Unit := { toBook := Kjp, lo := Jcf (Qe5 F), need := Jaw [] }
theorem Kuo (F : Nat) : Jbn prog (Kc9 F) F 57 0 3 Joc (Qe3 F) := fun d x KQ => by kernel_rfl
theorem Qe6 (F : Nat) : Jhk prog (Kc9 F) F := Ja0 (l := Qe5 F) rfl (fa (Jal 0 (by kernel_rfl) (by kernel_rfl) (Jah (Kuo F) (fun _ _ => rfl) (fun _ _ _ _ => rfl))) fz)
theorem Qjn (F : Nat) (x : Jaz K1v) (kend : List BV → ZO) : Jam prog (Kc9 F) F 20 57 (Jae K1v x) [.d (.slc (.int .u8))] kend = cTag F x.1 x.2.1 x.2.2.1 none (fun y0 => kend [BV.d (.slc (.int .u8)) y0]) := by kernel_rfl
theorem Kob  : Jad prog 57 K5l := Jap (B0 := Kjp) bkN bkG Jao bkT Qjn (Jac (fa Jsv fz)) (by kernel_rfl) (fun _ => rfl) Qe6 (fun x h => (K7i x.1 x.2.1 x.2.2.1 h).elim fun F hF => ⟨F, fun kend => hF none _⟩)
@[reducible] def J5a  : List PM := [.d (.slc (.int .u8))]
def Jz7  : Orc := Orc.of J5a true 0 fun x => (true, [.d .bool (Jni x.1)])
def J6w  : List (FuncId × Orc) := []
theorem K1w (F : Nat) (x : Jaz J5a) (kend : List BV → ZO) : Jam prog (bkZ J6w) F 20 54 (Jae J5a x) [.d .bool] kend = Kyj F x.1 none (fun y0 => kend [BV.d .bool y0]) := by kernel_rfl
theorem Jtj  : Jad prog 54 Jz7 := Jap (B0 := bkY J6w) bkN bkG Jao bkT K1w (Jac fz) (by kernel_rfl) (fun _ => rfl) (bkO _) (fun x _ => (Km3 x.1).elim fun F hF => ⟨F, fun kend => hF none _⟩)
@[reducible] def Koc  : List PM := [.d (.slc (.int .u8)), .d (.int .i64), .d (.slc (.int .u8))]
def Kup  : Orc := Orc.of Koc true 1 fun x => (Klq x.1 x.2.1 x.2.2.1, [.o 5 (.int .u8) (Jru x.1 x.2.1 x.2.2.1), .d (.int .i64) (Jwl x.1 x.2.1 x.2.2.1)])
@[reducible] def Jkm  : Tpl := { cur := ⟨[(1, .var (.int .i64)), (0, .row 0), (0, .ptr 1 []), (3, .row 2), (2, .var (.int .i64))], 17⟩, stk := [⟨[(0, .var (.slc (.int .u8))), (0, .var (.int .i64)), (0, .var (.slc (.int .u8))), (6, .ptr 3 []), (25, .row 0)], 5⟩, ⟨[], 0⟩], heap := [.row 5 (.int .u8) false, .box (.var (.arr 32 (.int .u8))), .row 5 (.int .u8) false, .box (.var (.arr 32 (.int .u8)))] }
def K8e  : List (FuncId × Orc) := [(54, Jz7), (55, Kc8), (56, Jz6), (103, J9k)]
def Kda  : Book := { Γ := gam, orc := Jbc K8e, hint := Jav [(57, { keep := some [1, 2, 3, 7, 10], keeps := [(3, [1, 2, 3, 7, 10])], own := [(7, 24)], dat := [], stk := [[0, 1, 2, 9, 35]] })] }
def K8f (F : Nat) (nx : Jkm.T → ZO) (kq : ZK) (x : Jkm.T) : ZO := J82 F none (fun nonce s10 key nonce1 b b1 Jtr l authenticate => nx ((nonce, ((), ((), ((), (s10, ()))))), (((key, (nonce1, (b, ((), ((), ()))))), ((), ())), (b1, (Jtr, (l, (authenticate, ()))))))) (fun y0 y1 y2 y3 y4 y5 y6 y7 y8 => kq (.exit 0) (Jkm.inst ((y0, ((), ((), ((), (y1, ()))))), (((y2, (y3, (y4, ((), ((), ()))))), ((), ())), (y5, (y6, (y7, (y8, ())))))))) x.1.1 x.1.2.2.2.2.1 x.2.1.1.1 x.2.1.1.2.1 x.2.1.1.2.2.1 x.2.2.1 x.2.2.2.1 x.2.2.2.2.1 x.2.2.2.2.2.1
def K8g (F m : Nat) (x : Jkm.T) (kq : ZK) : ZO := Jqk F none (fun y0 y1 y2 y3 y4 y5 y6 y7 y8 => kq (.exit 0) (Jkm.inst ((y0, ((), ((), ((), (y1, ()))))), (((y2, (y3, (y4, ((), ((), ()))))), ((), ())), (y5, (y6, (y7, (y8, ())))))))) m x.1.1 x.1.2.2.2.2.1 x.2.1.1.1 x.2.1.1.2.1 x.2.1.1.2.2.1 x.2.2.1 x.2.2.2.1 x.2.2.2.2.1 x.2.2.2.2.2.1
def K5m (F : Nat) : List (LoE Unit) := [⟨57, 3, LO.of Jkm (K8g F F)⟩]
def J5b (F : Nat) : Jbu Unit := { toBook := Kda, lo := Jcf (K5m F), need := Jaw [] }
theorem Kod (F : Nat) : Jbn prog (J5b F) F 57 0 3 Jkm (K8f F) := fun d x KQ => by kernel_rfl
theorem K8h (F : Nat) : Jhk prog (J5b F) F := Ja0 (l := K5m F) rfl (fa (Jal 0 (by kernel_rfl) (by kernel_rfl) (Jah (Kod F) (fun _ _ => rfl) (fun _ _ _ _ => rfl))) fz)
theorem Qe7 (F : Nat) (x : Jaz Koc) (kend : List BV → ZO) : Jam prog (J5b F) F 20 25 (Jae Koc x) [.o 5 (.int .u8), .d (.int .i64)] kend = Ql6 F x.1 x.2.1 x.2.2.1 none (fun y0 y1 => kend [BV.o 5 (.int .u8) y0, BV.d (.int .i64) y1]) := by kernel_rfl
theorem Kgf  : Jad prog 25 Kup := Jap (B0 := Kda) bkN bkG Jao bkT Qe7 (Jac (fa Jtj (fa Jyn (fa Jti (fa Jsv fz))))) (by kernel_rfl) (fun _ => rfl) K8h (fun x h => (Kzj x.1 x.2.1 x.2.2.1 h).elim fun F hF => ⟨F, fun kend => hF none _⟩)
@[reducible] def J9l  : List PM := [.d (.slc (.int .u8)), .d (.int .i64), .d (.slc (.int .u8))]
def Kuq  : Orc := Orc.of J9l true 1 fun x => (J4a x.1 x.2.1 x.2.2.1, [.o 5 (.int .u8) (Jjn x.1 x.2.1 x.2.2.1), .d (.int .i64) (Jl5 x.1 x.2.1 x.2.2.1)])
def Kjq  : List (FuncId × Orc) := [(54, Jz7), (55, Kc8), (56, Jz6), (57, K5l), (104, J45), (117, Jym)]
theorem Qe8 (F : Nat) (x : Jaz J9l) (kend : List BV → ZO) : Jam prog (bkZ Kjq) F 20 70 (Jae J9l x) [.o 5 (.int .u8), .d (.int .i64)] kend = Ql7 F x.1 x.2.1 x.2.2.1 none (fun y0 y1 => kend [BV.o 5 (.int .u8) y0, BV.d (.int .i64) y1]) := by kernel_rfl
theorem Kgg  : Jad prog 70 Kuq := Jap (B0 := bkY Kjq) bkN bkG Jao bkT Qe8 (Jac (fa Jtj (fa Jyn (fa Jti (fa Kob (fa Jvf (fa Jz5 fz))))))) (by kernel_rfl) (fun _ => rfl) (bkO _) (fun x h => (Kzk x.1 x.2.1 x.2.2.1 h).elim fun F hF => ⟨F, fun kend => hF none _⟩)
@[reducible] def J5c  : List PM := [.d (.arr 32 (.int .u8)), .d (.int .i64), .d (.slc (.int .u8))]
def Kdb  : Orc := Orc.of J5c true 1 fun x => (J1f x.1 x.2.1 x.2.2.1, [.o 5 (.int .u8) (Jp8 x.1 x.2.1 x.2.2.1), .d (.int .i64) (Jp9 x.1 x.2.1 x.2.2.1)])
@[reducible] def Jhd  : Tpl := { cur := ⟨[(1, .var (.int .i64)), (0, .var (.slc (.int .u8))), (0, .ptr 0 []), (4, .row 1), (0, .row 2), (0, .var (.int .i64))], 38⟩, stk := [⟨[], 0⟩], heap := [.box (.var (.arr 32 (.int .u8))), .row 5 (.int .u8) false, .row 5 (.int .u8) false] }
def Kur  : List (FuncId × Orc) := [(42, Jsx), (91, Kjm)]
def J3c  : Book := { Γ := gam, orc := Jbc Kur, hint := Jav [(45, { keep := some [1, 2, 3, 8, 9, 10], keeps := [(7, [1, 2, 3, 8, 9, 10])], own := [(8, 24), (9, 24)], dat := [], stk := [] })] }
def Kus (F : Nat) (nx : Jhd.T → ZO) (kq : ZK) (x : Jhd.T) : ZO := Jw9 F none (fun nonce b i key out block => nx ((nonce, (b, ((), ((), ((), (i, ())))))), (((), ()), (key, (out, (block, ())))))) (fun y0 y1 y2 y3 y4 y5 => kq (.exit 0) (Jhd.inst ((y0, (y1, ((), ((), ((), (y2, ())))))), (((), ()), (y3, (y4, (y5, ()))))))) x.1.1 x.1.2.1 x.1.2.2.2.2.2.1 x.2.2.1 x.2.2.2.1 x.2.2.2.2.1
def Kut (F m : Nat) (x : Jhd.T) (kq : ZK) : ZO := Jkh F none (fun y0 y1 y2 y3 y4 y5 => kq (.exit 0) (Jhd.inst ((y0, (y1, ((), ((), ((), (y2, ())))))), (((), ()), (y3, (y4, (y5, ()))))))) m x.1.1 x.1.2.1 x.1.2.2.2.2.2.1 x.2.2.1 x.2.2.2.1 x.2.2.2.2.1
def Kjr (F : Nat) : List (LoE Unit) := [⟨45, 7, LO.of Jhd (Kut F F)⟩]
def Jvh (F : Nat) : Jbu Unit := { toBook := J3c, lo := Jcf (Kjr F), need := Jaw [] }
theorem Kdc (F : Nat) : Jbn prog (Jvh F) F 45 0 7 Jhd (Kus F) := fun d x KQ => by kernel_rfl
theorem Kuu (F : Nat) : Jhk prog (Jvh F) F := Ja0 (l := Kjr F) rfl (fa (Jal 0 (by kernel_rfl) (by kernel_rfl) (Jah (Kdc F) (fun _ _ => rfl) (fun _ _ _ _ => rfl))) fz)
theorem K1x (F : Nat) (x : Jaz J5c) (kend : List BV → ZO) : Jam prog (Jvh F) F 20 45 (Jae J5c x) [.o 5 (.int .u8), .d (.int .i64)] kend = Kyn F x.1 x.2.1 x.2.2.1 none (fun y0 y1 => kend [BV.o 5 (.int .u8) y0, BV.d (.int .i64) y1]) := by kernel_rfl
theorem J71  : Jad prog 45 Kdb := Jap (B0 := J3c) bkN bkG Jao bkT K1x (Jac (fa Jlx (fa Kc1 fz))) (by kernel_rfl) (fun _ => rfl) Kuu (fun x h => (Km2 x.1 x.2.1 x.2.2.1 h).elim fun F hF => ⟨F, fun kend => hF none _⟩)
@[reducible] def Koe  : List PM := [.d (.slc (.int .u8))]
def Kuv  : Orc := Orc.of Koe true 0 fun x => (J4b x.1, [.d (.arr 32 (.int .u8)) (Jrv x.1), .d (.arr 32 (.int .u8)) (Jwn x.1)])
def Kjs  : List (FuncId × Orc) := [(89, Kn5)]
theorem Qe9 (F : Nat) (x : Jaz Koe) (kend : List BV → ZO) : Jam prog (bkZ Kjs) F 20 43 (Jae Koe x) [.d (.arr 32 (.int .u8)), .d (.arr 32 (.int .u8))] kend = Ql8 F x.1 none (fun y0 y1 => kend [BV.d (.arr 32 (.int .u8)) y0, BV.d (.arr 32 (.int .u8)) y1]) := by kernel_rfl
theorem Kgh  : Jad prog 43 Kuv := Jap (B0 := bkY Kjs) bkN bkG Jao bkT Qe9 (Jac (fa J27 fz)) (by kernel_rfl) (fun _ => rfl) (bkO _) (fun x h => (Kzg x.1 h).elim fun F hF => ⟨F, fun kend => hF none _⟩)
@[reducible] def K1y  : List PM := [.d (.arr 32 (.int .u8)), .d (.int .i64), .d (.slc (.int .u8))]
def K5n  : Orc := Orc.of K1y true 1 fun x => (J6f x.1 x.2.1 x.2.2.1, [.o 5 (.int .u8) (Kq6 x.1 x.2.1 x.2.2.1)])
@[reducible] def Jod  : Tpl := { cur := ⟨[(1, .var (.int .i64)), (0, .var (.slc (.int .u8))), (0, .ptr 0 []), (3, .row 1), (0, .var (.int .i64))], 30⟩, stk := [⟨[], 0⟩], heap := [.box (.var (.arr 32 (.int .u8))), .row 5 (.int .u8) false] }
@[reducible] def Joe  : Tpl := { cur := ⟨[(9, .ptr 0 []), (0, .row 1), (0, .var (.int .i64))], 27⟩, stk := [⟨[], 0⟩], heap := [.box (.var (.arr 32 (.int .u8))), .row 5 (.int .u8) false] }
def Qfa  : List (FuncId × Orc) := [(89, Kn5), (90, Jz4)]
def Kjt  : Book := { Γ := gam, orc := Jbc Qfa, hint := Jav [(44, { keep := some [1, 2, 3, 7, 8, 9, 10, 11], keeps := [(3, [1, 2, 3, 7, 8]), (9, [9, 10, 11])], own := [(7, 24), (10, 24)], dat := [], stk := [] })] }
def Qfb (F : Nat) (nx : Jod.T → ZO) (kq : ZK) (x : Jod.T) : ZO := Kl2 F none (fun nonce b i key k => nx ((nonce, (b, ((), ((), (i, ()))))), (((), ()), (key, (k, ()))))) (fun y0 y1 y2 y3 y4 => kq (.exit 0) (Jod.inst ((y0, (y1, ((), ((), (y2, ()))))), (((), ()), (y3, (y4, ())))))) x.1.1 x.1.2.1 x.1.2.2.2.2.1 x.2.2.1 x.2.2.2.1
def Qfc (F m : Nat) (x : Jod.T) (kq : ZK) : ZO := Jw3 F none (fun y0 y1 y2 y3 y4 => kq (.exit 0) (Jod.inst ((y0, (y1, ((), ((), (y2, ()))))), (((), ()), (y3, (y4, ())))))) m x.1.1 x.1.2.1 x.1.2.2.2.2.1 x.2.2.1 x.2.2.2.1
def Qfd (F : Nat) (nx : Joe.T → ZO) (kq : ZK) (x : Joe.T) : ZO := Kl3 F none (fun i d_ out => nx (((), ((), (i, ()))), (((), ()), (d_, (out, ()))))) (fun y0 y1 y2 => kq (.exit 2) (Joe.inst (((), ((), (y0, ()))), (((), ()), (y1, (y2, ())))))) x.1.2.2.1 x.2.2.1 x.2.2.2.1
def Qfe (F m : Nat) (x : Joe.T) (kq : ZK) : ZO := Jw4 F none (fun y0 y1 y2 => kq (.exit 2) (Joe.inst (((), ((), (y0, ()))), (((), ()), (y1, (y2, ())))))) m x.1.2.2.1 x.2.2.1 x.2.2.2.1
def Qff (F : Nat) : List (LoE Unit) := [⟨44, 3, LO.of Jod (Qfc F F)⟩,
 ⟨44, 9, LO.of Joe (Qfe F F)⟩]
def J3d (F : Nat) : Jbu Unit := { toBook := Kjt, lo := Jcf (Qff F), need := Jaw [] }
theorem Kuw (F : Nat) : Jbn prog (J3d F) F 44 0 3 Jod (Qfb F) := fun d x KQ => by kernel_rfl
theorem Kux (F : Nat) : Jbn prog (J3d F) F 44 1 9 Joe (Qfd F) := fun d x KQ => by kernel_rfl
theorem Qfg (F : Nat) : Jhk prog (J3d F) F := Ja0 (l := Qff F) rfl (fa (Jal 0 (by kernel_rfl) (by kernel_rfl) (Jah (Kuw F) (fun _ _ => rfl) (fun _ _ _ _ => rfl))) (fa (Jal 1 (by kernel_rfl) (by kernel_rfl) (Jah (Kux F) (fun _ _ => rfl) (fun _ _ _ _ => rfl))) fz))
theorem Qjo (F : Nat) (x : Jaz K1y) (kend : List BV → ZO) : Jam prog (J3d F) F 20 44 (Jae K1y x) [.o 5 (.int .u8)] kend = rTag F x.1 x.2.1 x.2.2.1 none (fun y0 => kend [BV.o 5 (.int .u8) y0]) := by kernel_rfl
theorem Kof  : Jad prog 44 K5n := Jap (B0 := Kjt) bkN bkG Jao bkT Qjo (Jac (fa J27 (fa Jtg fz))) (by kernel_rfl) (fun _ => rfl) Qfg (fun x h => (K7k x.1 x.2.1 x.2.2.1 h).elim fun F hF => ⟨F, fun kend => hF none _⟩)
@[reducible] def J9m  : List PM := [.d (.slc (.int .u8)), .d (.int .i64), .d (.slc (.int .u8))]
def Kuy  : Orc := Orc.of J9m true 1 fun x => (J4c x.1 x.2.1 x.2.2.1, [.o 5 (.int .u8) (Jho x.1 x.2.1 x.2.2.1), .d (.int .i64) (Jjr x.1 x.2.1 x.2.2.1)])
def Kju  : List (FuncId × Orc) := [(42, Jsx), (43, Kuv), (44, K5n), (45, Kdb)]
theorem Qfh (F : Nat) (x : Jaz J9m) (kend : List BV → ZO) : Jam prog (bkZ Kju) F 20 20 (Jae J9m x) [.o 5 (.int .u8), .d (.int .i64)] kend = Ql9 F x.1 x.2.1 x.2.2.1 none (fun y0 y1 => kend [BV.o 5 (.int .u8) y0, BV.d (.int .i64) y1]) := by kernel_rfl
theorem Kgi  : Jad prog 20 Kuy := Jap (B0 := bkY Kju) bkN bkG Jao bkT Qfh (Jac (fa Jlx (fa Kgh (fa Kof (fa J71 fz))))) (by kernel_rfl) (fun _ => rfl) (bkO _) (fun x h => (Kzl x.1 x.2.1 x.2.2.1 h).elim fun F hF => ⟨F, fun kend => hF none _⟩)
end Go.AI
namespace Go.AI
open Go
open Go.Proofs.Tryz (prog)
set_option linter.unusedVariables false
@[reducible] def Kdd  : List PM := [.d (.slc (.arr 16 (.int .u8)))]
def J5d  : Orc := Orc.of Kdd true 1 fun x => (Jrq x.1, [.o 93 (.arr 16 (.int .u8)) (J08 x.1)])
def Kde  : List (FuncId × Orc) := []
theorem K8i (F : Nat) (x : Jaz Kdd) (kend : List BV → ZO) : Jam prog (bkZ Kde) F 20 86 (Jae Kdd x) [.o 93 (.arr 16 (.int .u8))] kend = Qbw F x.1 none J67 (fun y0 => kend [BV.o 93 (.arr 16 (.int .u8)) y0]) := by kernel_rfl
theorem Jvi  : Jad prog 86 J5d := Jap (B0 := bkY Kde) bkN bkG Jao bkT K8i (Jac fz) (by kernel_rfl) (fun _ => rfl) (bkO _) (fun x h => (Krd x.1 h).elim fun F hF => ⟨F, fun kend => hF none J67 Kqv _⟩)
@[reducible] def Kog  : List PM := [.d (.pair (.slc (.arr 16 (.int .u8))) (.pair (.slc (.pair (.int .i64) (.pair (.arr 16 (.int .u8)) .unit))) .unit)), .d (.int .i64), .d (.int .i64)]
def Kuz  : Orc := Orc.of Kog true 0 fun x => (Klh x.1 x.2.1 x.2.2.1, [.d .bool (Kav x.1 x.2.1 x.2.2.1)])
def Kjv  : List (FuncId × Orc) := []
theorem Qfi (F : Nat) (x : Jaz Kog) (kend : List BV → ZO) : Jam prog (bkZ Kjv) F 20 85 (Jae Kog x) [.d .bool] kend = Qlz F x.1 x.2.1 x.2.2.1 none (fun y0 => kend [BV.d .bool y0]) := by kernel_rfl
theorem Kgj  : Jad prog 85 Kuz := Jap (B0 := bkY Kjv) bkN bkG Jao bkT Qfi (Jac fz) (by kernel_rfl) (fun _ => rfl) (bkO _) (fun x h => (Ky0 x.1 x.2.1 x.2.2.1 h).elim fun F hF => ⟨F, fun kend => hF none _⟩)
@[reducible] def Kdf  : List PM := [.d (.pair (.slc (.arr 16 (.int .u8))) (.pair (.slc (.pair (.int .i64) (.pair (.arr 16 (.int .u8)) .unit))) .unit))]
def Kjw  : Orc := Orc.of Kdf true 0 fun x => (J8q x.1, [.d (.int .i64) (Jwe x.1)])
@[reducible] def Jf7  : Tpl := { cur := ⟨[(0, .var (.slc (.pair (.int .i64) (.pair (.arr 16 (.int .u8)) .unit)))), (0, .fn 92 (.pr (.ptr 0 []) (.un))), (2, .var (.int .i64)), (2, .var (.int .i64)), (0, .var (.int .i64))], 10⟩, stk := [⟨[], 9⟩, ⟨[(11, .lit false), (3, .lit false)], 5⟩, ⟨[], 0⟩], heap := [.box (.var (.pair (.slc (.arr 16 (.int .u8))) (.pair (.slc (.pair (.int .i64) (.pair (.arr 16 (.int .u8)) .unit))) .unit)))] }
def K1z  : List (FuncId × Orc) := []
def J6x  : Book := { Γ := gam, orc := Jbc K1z, hint := Jav [(136, { keep := some [0, 1, 4, 7, 8], keeps := [(2, [0, 1, 4, 7, 8])], own := [], dat := [], stk := [[], [11, 15]] })] }
def K10 (F : Nat) (nx : Jf7.T → ZO) (kq : ZK) (x : Jf7.T) : ZO := J1u F none (fun s s4 s7 s8 f => nx ((s, (((), ()), (s4, (s7, (s8, ()))))), (((), (((), ((), ())), ((), ()))), (f, ())))) (fun y0 y1 y2 y3 y4 => kq .ret (Jf7.inst ((y0, (((), ()), (y1, (y2, (y3, ()))))), (((), (((), ((), ())), ((), ()))), (y4, ()))))) (fun y0 y1 y2 y3 y4 => kq (.exit 0) (Jf7.inst ((y0, (((), ()), (y1, (y2, (y3, ()))))), (((), (((), ((), ())), ((), ()))), (y4, ()))))) x.1.1 x.1.2.2.1 x.1.2.2.2.1 x.1.2.2.2.2.1 x.2.2.1
def K11 (F m : Nat) (x : Jf7.T) (kq : ZK) : ZO := Jmr F none (fun y0 y1 y2 y3 y4 => kq .ret (Jf7.inst ((y0, (((), ()), (y1, (y2, (y3, ()))))), (((), (((), ((), ())), ((), ()))), (y4, ()))))) (fun y0 y1 y2 y3 y4 => kq (.exit 0) (Jf7.inst ((y0, (((), ()), (y1, (y2, (y3, ()))))), (((), (((), ((), ())), ((), ()))), (y4, ()))))) m x.1.1 x.1.2.2.1 x.1.2.2.2.1 x.1.2.2.2.2.1 x.2.2.1
def Ku0 (F : Nat) : List (LoE Unit) := [⟨136, 2, LO.of Jf7 (K11 F F)⟩]
def Jz8 (F : Nat) : Jbu Unit := { toBook := J6x, lo := Jcf (Ku0 F), need := Jaw [(136, 1)] }
theorem Kgk (F : Nat) : Jbn prog (Jz8 F) F 136 0 2 Jf7 (K10 F) := fun d x KQ => by kernel_rfl
theorem K12 (F : Nat) : Jhk prog (Jz8 F) F := Ja0 (l := Ku0 F) rfl (fa (Jal 0 (by kernel_rfl) (by kernel_rfl) (Jah (Kgk F) (fun _ _ => rfl) (fun _ _ _ _ => rfl))) fz)
theorem K8j (F : Nat) (x : Jaz Kdf) (kend : List BV → ZO) : Jam prog (Jz8 F) F 20 46 (Jae Kdf x) [.d (.int .i64)] kend = Qbx F x.1 none (fun y0 => kend [BV.d (.int .i64) y0]) := by kernel_rfl
theorem Kdg  : Jad prog 46 Kjw := Jap (B0 := J6x) bkN bkG Jao bkT K8j (Jac fz) (by kernel_rfl) (fun _ => rfl) K12 (fun x h => (Krf x.1 h).elim fun F hF => ⟨F, fun kend => hF none _⟩)
@[reducible] def Jz9  : List PM := [.d (.pair (.slc (.arr 16 (.int .u8))) (.pair (.slc (.pair (.int .i64) (.pair (.arr 16 (.int .u8)) .unit))) .unit))]
def J6y  : Orc := Orc.of Jz9 true 1 fun x => (Jmo x.1, [.o 93 (.arr 16 (.int .u8)) (Jmp x.1)])
@[reducible] def Jf8  : Tpl := { cur := ⟨[(3, .row 0), (6, .var (.slc (.pair (.int .i64) (.pair (.arr 16 (.int .u8)) .unit)))), (0, .var (.int .i64)), (0, .var (.int .i64))], 11⟩, stk := [⟨[], 0⟩], heap := [.row 93 (.arr 16 (.int .u8)) false] }
def Koh  : List (FuncId × Orc) := [(86, J5d)]
def Jyo  : Book := { Γ := gam, orc := Jbc Koh, hint := Jav [(87, { keep := some [3, 10, 11, 12], keeps := [(3, [3, 10, 11, 12])], own := [], dat := [], stk := [] })] }
def Koi (F : Nat) (nx : Jf8.T → ZO) (kq : ZK) (x : Jf8.T) : ZO := Jr2 F none (fun s10 s11 s12 out => nx (((), (s10, (s11, (s12, ())))), (((), ()), (out, ())))) (fun y0 y1 y2 y3 => kq (.exit 0) (Jf8.inst (((), (y0, (y1, (y2, ())))), (((), ()), (y3, ()))))) x.1.2.1 x.1.2.2.1 x.1.2.2.2.1 x.2.2.1
def Koj (F m : Nat) (x : Jf8.T) (kq : ZK) : ZO := Ji6 F none (fun y0 y1 y2 y3 => kq (.exit 0) (Jf8.inst (((), (y0, (y1, (y2, ())))), (((), ()), (y3, ()))))) m x.1.2.1 x.1.2.2.1 x.1.2.2.2.1 x.2.2.1
def Kdh (F : Nat) : List (LoE Unit) := [⟨87, 3, LO.of Jf8 (Koj F F)⟩]
def Jsz (F : Nat) : Jbu Unit := { toBook := Jyo, lo := Jcf (Kdh F), need := Jaw [] }
theorem J72 (F : Nat) : Jbn prog (Jsz F) F 87 0 3 Jf8 (Koi F) := fun d x KQ => by kernel_rfl
theorem Kok (F : Nat) : Jhk prog (Jsz F) F := Ja0 (l := Kdh F) rfl (fa (Jal 0 (by kernel_rfl) (by kernel_rfl) (Jah (J72 F) (fun _ _ => rfl) (fun _ _ _ _ => rfl))) fz)
theorem Ku1 (F : Nat) (x : Jaz Jz9) (kend : List BV → ZO) : Jam prog (Jsz F) F 20 87 (Jae Jz9 x) [.o 93 (.arr 16 (.int .u8))] kend = Klw F x.1 none (fun y0 => kend [BV.o 93 (.arr 16 (.int .u8)) y0]) := by kernel_rfl
theorem J5e  : Jad prog 87 J6y := Jap (B0 := Jyo) bkN bkG Jao bkT Ku1 (Jac (fa Jvi fz)) (by kernel_rfl) (fun _ => rfl) Kok (fun x h => (Kfe x.1 h).elim fun F hF => ⟨F, fun kend => hF none _⟩)
@[reducible] def Kol  : List PM := [.d (.pair (.slc (.arr 16 (.int .u8))) (.pair (.slc (.pair (.int .i64) (.pair (.arr 16 (.int .u8)) .unit))) .unit)), .d (.int .i64), .d (.int .i64)]
def Ku2  : Orc := Orc.of Kol true 1 fun x => (Kli x.1 x.2.1 x.2.2.1, [.o 93 (.arr 16 (.int .u8)) (Jep x.1 x.2.1 x.2.2.1), .d (.int .i64) (Jwf x.1 x.2.1 x.2.2.1)])
def Kjx  : List (FuncId × Orc) := [(46, Kjw), (85, Kuz), (86, J5d), (87, J6y)]
theorem Qfj (F : Nat) (x : Jaz Kol) (kend : List BV → ZO) : Jam prog (bkZ Kjx) F 20 39 (Jae Kol x) [.o 93 (.arr 16 (.int .u8)), .d (.int .i64)] kend = Ql0 F x.1 x.2.1 x.2.2.1 none (fun y0 y1 => kend [BV.o 93 (.arr 16 (.int .u8)) y0, BV.d (.int .i64) y1]) := by kernel_rfl
theorem Kgl  : Jad prog 39 Ku2 := Jap (B0 := bkY Kjx) bkN bkG Jao bkT Qfj (Jac (fa Kdg (fa Kgj (fa Jvi (fa J5e fz))))) (by kernel_rfl) (fun _ => rfl) (bkO _) (fun x h => (Ky3 x.1 x.2.1 x.2.2.1 h).elim fun F hF => ⟨F, fun kend => hF none _⟩)
@[reducible] def Kdi  : List PM := [.d (.pair (.slc (.arr 16 (.int .u8))) (.pair (.slc (.pair (.int .i64) (.pair (.arr 16 (.int .u8)) .unit))) .unit))]
def J5f  : Orc := Orc.of Kdi true 0 fun x => (Jwg x.1, [.d (.int .i64) (Joy x.1)])
@[reducible] def Jf9  : Tpl := { cur := ⟨[(1, .ptr 0 []), (0, .var (.int .i64)), (0, .var (.int .i64))], 36⟩, stk := [⟨[], 0⟩], heap := [.box (.var (.pair (.slc (.arr 16 (.int .u8))) (.pair (.slc (.pair (.int .i64) (.pair (.arr 16 (.int .u8)) .unit))) .unit)))] }
def K13  : List (FuncId × Orc) := []
def J6z  : Book := { Γ := gam, orc := Jbc K13, hint := Jav [(76, { keep := some [1, 2, 3], keeps := [(4, [1, 2, 3])], own := [], dat := [], stk := [] })] }
def K14 (F : Nat) (nx : Jf9.T → ZO) (kq : ZK) (x : Jf9.T) : ZO := J1v F none (fun s2 i d_ => nx (((), (s2, (i, ()))), (((), ()), (d_, ())))) (fun y0 y1 y2 => kq .ret (Jf9.inst (((), (y0, (y1, ()))), (((), ()), (y2, ()))))) (fun y0 y1 y2 => kq (.exit 0) (Jf9.inst (((), (y0, (y1, ()))), (((), ()), (y2, ()))))) x.1.2.1 x.1.2.2.1 x.2.2.1
def K15 (F m : Nat) (x : Jf9.T) (kq : ZK) : ZO := Jms F none (fun y0 y1 y2 => kq .ret (Jf9.inst (((), (y0, (y1, ()))), (((), ()), (y2, ()))))) (fun y0 y1 y2 => kq (.exit 0) (Jf9.inst (((), (y0, (y1, ()))), (((), ()), (y2, ()))))) m x.1.2.1 x.1.2.2.1 x.2.2.1
def Ku3 (F : Nat) : List (LoE Unit) := [⟨76, 4, LO.of Jf9 (K15 F F)⟩]
def J0a (F : Nat) : Jbu Unit := { toBook := J6z, lo := Jcf (Ku3 F), need := Jaw [] }
theorem Kgm (F : Nat) : Jbn prog (J0a F) F 76 0 4 Jf9 (K14 F) := fun d x KQ => by kernel_rfl
theorem K16 (F : Nat) : Jhk prog (J0a F) F := Ja0 (l := Ku3 F) rfl (fa (Jal 0 (by kernel_rfl) (by kernel_rfl) (Jah (Kgm F) (fun _ _ => rfl) (fun _ _ _ _ => rfl))) fz)
theorem K8k (F : Nat) (x : Jaz Kdi) (kend : List BV → ZO) : Jam prog (J0a F) F 20 76 (Jae Kdi x) [.d (.int .i64)] kend = Qby F x.1 none (fun y0 => kend [BV.d (.int .i64) y0]) := by kernel_rfl
theorem Jvj  : Jad prog 76 J5f := Jap (B0 := J6z) bkN bkG Jao bkT K8k (Jac fz) (by kernel_rfl) (fun _ => rfl) K16 (fun x h => (Krg x.1 h).elim fun F hF => ⟨F, fun kend => hF none _⟩)
@[reducible] def Kom  : List PM := [.d (.pair (.slc (.arr 16 (.int .u8))) (.pair (.slc (.pair (.int .i64) (.pair (.arr 16 (.int .u8)) .unit))) .unit))]
def Ku4  : Orc := Orc.of Kom false 0 fun x => (J36 x.1, [.d (.pair (.slc (.arr 16 (.int .u8))) (.pair (.slc (.pair (.int .i64) (.pair (.arr 16 (.int .u8)) .unit))) .unit)) (J37 x.1)])
@[reducible] def Jkn  : Tpl := { cur := ⟨[(1, .ptr 0 []), (0, .ptr 1 []), (0, .ptr 2 []), (0, .var (.int .i64))], 26⟩, stk := [⟨[], 0⟩], heap := [.box (.var (.pair (.slc (.arr 16 (.int .u8))) (.pair (.slc (.pair (.int .i64) (.pair (.arr 16 (.int .u8)) .unit))) .unit))), .box (.var (.pair (.slc (.arr 16 (.int .u8))) (.pair (.slc (.pair (.int .i64) (.pair (.arr 16 (.int .u8)) .unit))) .unit))), .box (.pr (.row 3) (.pr (.row 4) (.var .unit))), .row 93 (.arr 16 (.int .u8)) false, .row 155 (.pair (.int .i64) (.pair (.arr 16 (.int .u8)) .unit)) false] }
def K8l  : List (FuncId × Orc) := []
def Kdj  : Book := { Γ := gam, orc := Jbc K8l, hint := Jav [(123, { keep := some [1, 2, 3, 4], keeps := [(3, [1, 2, 3, 4])], own := [], dat := [], stk := [] })] }
def K8m (F : Nat) (nx : Jkn.T → ZO) (kq : ZK) (x : Jkn.T) : ZO := J81 F none (fun i d_ s2 h3 h4 => nx (((), ((), ((), (i, ())))), (((), ()), (d_, (s2, (((), ((), ())), (h3, (h4, ())))))))) (fun y0 y1 y2 y3 y4 => kq (.exit 0) (Jkn.inst (((), ((), ((), (y0, ())))), (((), ()), (y1, (y2, (((), ((), ())), (y3, (y4, ()))))))))) x.1.2.2.2.1 x.2.2.1 x.2.2.2.1 x.2.2.2.2.2.1 x.2.2.2.2.2.2.1
def K8n (F m : Nat) (x : Jkn.T) (kq : ZK) : ZO := Jqi F none (fun y0 y1 y2 y3 y4 => kq (.exit 0) (Jkn.inst (((), ((), ((), (y0, ())))), (((), ()), (y1, (y2, (((), ((), ())), (y3, (y4, ()))))))))) m x.1.2.2.2.1 x.2.2.1 x.2.2.2.1 x.2.2.2.2.2.1 x.2.2.2.2.2.2.1
def K5o (F : Nat) : List (LoE Unit) := [⟨123, 3, LO.of Jkn (K8n F F)⟩]
def J5g (F : Nat) : Jbu Unit := { toBook := Kdj, lo := Jcf (K5o F), need := Jaw [] }
theorem Kon (F : Nat) : Jbn prog (J5g F) F 123 0 3 Jkn (K8m F) := fun d x KQ => by kernel_rfl
theorem K8o (F : Nat) : Jhk prog (J5g F) F := Ja0 (l := K5o F) rfl (fa (Jal 0 (by kernel_rfl) (by kernel_rfl) (Jah (Kon F) (fun _ _ => rfl) (fun _ _ _ _ => rfl))) fz)
theorem Qfk (F : Nat) (x : Jaz Kom) (kend : List BV → ZO) : Jam prog (J5g F) F 20 123 (Jae Kom x) [.d (.pair (.slc (.arr 16 (.int .u8))) (.pair (.slc (.pair (.int .i64) (.pair (.arr 16 (.int .u8)) .unit))) .unit))] kend = Ql1 F x.1 none (fun y0 => kend [BV.d (.pair (.slc (.arr 16 (.int .u8))) (.pair (.slc (.pair (.int .i64) (.pair (.arr 16 (.int .u8)) .unit))) .unit)) y0]) := by kernel_rfl
theorem Kgn  : Jad prog 123 Ku4 := Jap (B0 := Kdj) bkN bkG Jao bkT Qfk (Jac fz) (by kernel_rfl) (fun _ => rfl) K8o (fun x h => (Ky2 x.1 h).elim fun F hF => ⟨F, fun kend => hF none _⟩)
@[reducible] def Koo  : List PM := [.d (.pair (.slc (.arr 16 (.int .u8))) (.pair (.slc (.pair (.int .i64) (.pair (.arr 16 (.int .u8)) .unit))) .unit)), .d (.int .i64), .d (.int .i64)]
def Ku5  : Orc := Orc.of Koo true 0 fun x => (Klj x.1 x.2.1 x.2.2.1, [.d .bool (Kaw x.1 x.2.1 x.2.2.1)])
def Kjy  : List (FuncId × Orc) := []
theorem Qfl (F : Nat) (x : Jaz Koo) (kend : List BV → ZO) : Jam prog (bkZ Kjy) F 20 122 (Jae Koo x) [.d .bool] kend = Ql2 F x.1 x.2.1 x.2.2.1 none (fun y0 => kend [BV.d .bool y0]) := by kernel_rfl
theorem Kgo  : Jad prog 122 Ku5 := Jap (B0 := bkY Kjy) bkN bkG Jao bkT Qfl (Jac fz) (by kernel_rfl) (fun _ => rfl) (bkO _) (fun x h => (Ky1 x.1 x.2.1 x.2.2.1 h).elim fun F hF => ⟨F, fun kend => hF none _⟩)
@[reducible] def Kop  : List PM := [.d (.pair (.slc (.arr 16 (.int .u8))) (.pair (.slc (.pair (.int .i64) (.pair (.arr 16 (.int .u8)) .unit))) .unit)), .d (.int .i64), .d (.int .i64)]
def Ku6  : Orc := Orc.of Kop true 1 fun x => (Klk x.1 x.2.1 x.2.2.1, [.o 93 (.arr 16 (.int .u8)) (Jf0 x.1 x.2.1 x.2.2.1), .d (.int .i64) (Kll x.1 x.2.1 x.2.2.1)])
def Kjz  : List (FuncId × Orc) := [(76, J5f), (122, Ku5), (123, Ku4)]
theorem Qfm (F : Nat) (x : Jaz Kop) (kend : List BV → ZO) : Jam prog (bkZ Kjz) F 20 77 (Jae Kop x) [.o 93 (.arr 16 (.int .u8)), .d (.int .i64)] kend = Ql3 F x.1 x.2.1 x.2.2.1 none (fun y0 y1 => kend [BV.o 93 (.arr 16 (.int .u8)) y0, BV.d (.int .i64) y1]) := by kernel_rfl
theorem Kgp  : Jad prog 77 Ku6 := Jap (B0 := bkY Kjz) bkN bkG Jao bkT Qfm (Jac (fa Jvj (fa Kgo (fa Kgn fz)))) (by kernel_rfl) (fun _ => rfl) (bkO _) (fun x h => (Ky4 x.1 x.2.1 x.2.2.1 h).elim fun F hF => ⟨F, fun kend => hF none _⟩)
@[reducible] def Js0  : List PM := [.d (.slc (.arr 16 (.int .u8))), .d (.slc (.arr 16 (.int .u8)))]
def Jyp  : Orc := Orc.of Js0 true 0 fun x => (Jk9 x.1 x.2.1, [.d .bool (Jla x.1 x.2.1)])
@[reducible] def Jc6  : Tpl := { cur := ⟨[(0, .var (.slc (.arr 16 (.int .u8)))), (0, .var (.slc (.arr 16 (.int .u8)))), (2, .var .bool), (0, .var (.int .i64))], 20⟩, stk := [⟨[], 0⟩], heap := [] }
def Kdk  : List (FuncId × Orc) := []
def Jtk  : Book := { Γ := gam, orc := Jbc Kdk, hint := Jav [(31, { keep := some [0, 1, 4, 5], keeps := [(4, [0, 1, 4, 5])], own := [], dat := [], stk := [] })] }
def Kdl (F : Nat) (nx : Jc6.T → ZO) (kq : ZK) (x : Jc6.T) : ZO := Jl9 F none (fun a b s4 i => nx ((a, (b, (s4, (i, ())))), (((), ()), ()))) (fun y0 y1 y2 y3 => kq .ret (Jc6.inst ((y0, (y1, (y2, (y3, ())))), (((), ()), ())))) (fun y0 y1 y2 y3 => kq (.exit 0) (Jc6.inst ((y0, (y1, (y2, (y3, ())))), (((), ()), ())))) x.1.1 x.1.2.1 x.1.2.2.1 x.1.2.2.2.1
def Kdm (F m : Nat) (x : Jc6.T) (kq : ZK) : ZO := Jgf F none (fun y0 y1 y2 y3 => kq .ret (Jc6.inst ((y0, (y1, (y2, (y3, ())))), (((), ()), ())))) (fun y0 y1 y2 y3 => kq (.exit 0) (Jc6.inst ((y0, (y1, (y2, (y3, ())))), (((), ()), ())))) m x.1.1 x.1.2.1 x.1.2.2.1 x.1.2.2.2.1
def J3e (F : Nat) : List (LoE Unit) := [⟨31, 4, LO.of Jc6 (Kdm F F)⟩]
def Jof (F : Nat) : Jbu Unit := { toBook := Jtk, lo := Jcf (J3e F), need := Jaw [] }
theorem J3f (F : Nat) : Jbn prog (Jof F) F 31 0 4 Jc6 (Kdl F) := fun d x KQ => by kernel_rfl
theorem Kdn (F : Nat) : Jhk prog (Jof F) F := Ja0 (l := J3e F) rfl (fa (Jal 0 (by kernel_rfl) (by kernel_rfl) (Jah (J3f F) (fun _ _ => rfl) (fun _ _ _ _ => rfl))) fz)
theorem Kgq (F : Nat) (x : Jaz Js0) (kend : List BV → ZO) : Jam prog (Jof F) F 20 31 (Jae Js0 x) [.d .bool] kend = J4d F x.1 x.2.1 none (fun y0 => kend [BV.d .bool y0]) := by kernel_rfl
theorem J0b  : Jad prog 31 Jyp := Jap (B0 := Jtk) bkN bkG Jao bkT Kgq (Jac fz) (by kernel_rfl) (fun _ => rfl) Kdn (fun x h => (J7f x.1 x.2.1 h).elim fun F hF => ⟨F, fun kend => hF none _⟩)
@[reducible] def K17  : List PM := [.d (.pair (.slc (.arr 16 (.int .u8))) (.pair (.slc (.pair (.int .i64) (.pair (.arr 16 (.int .u8)) .unit))) .unit))]
def K5p  : Orc := Orc.of K17 true 0 fun x => (true, [.d .bool (Kic x.1)])
def Ku7  : List (FuncId × Orc) := []
theorem Qjp (F : Nat) (x : Jaz K17) (kend : List BV → ZO) : Jam prog (bkZ Ku7) F 20 13 (Jae K17 x) [.d .bool] kend = rFew F x.1 none (fun y0 => kend [BV.d .bool y0]) := by kernel_rfl
theorem Koq  : Jad prog 13 K5p := Jap (B0 := bkY Ku7) bkN bkG Jao bkT Qjp (Jac fz) (by kernel_rfl) (fun _ => rfl) (bkO _) (fun x _ => (K64 x.1).elim fun F hF => ⟨F, fun kend => hF none _⟩)
end Go.AI
namespace Go.AI
open Go Go.Proofs
def rcvs (f : FuncId) : Option Rcv := bif Nat.beq f 88 then some { clo := 127, ncap := 2, pan := 186, sto := [(0, 24, none), (1, 4, some false)] } else none
theorem Qnq (p q : Value) (w : World) : CallsDIn (Fe none) 0 Tryz.prog 127 #[p, q] .returning w fun e u' w' => (∃ v, e = .returned v) ∧ u' = .returning ∧ w' = w := by
 refine callsDIn_of_wpSIn Tryz.func127 rfl trivial fun c₀ cs hu => ?_
 apply wpSIn_seq
 apply wpSIn_region
 simp [wpOpsSIn, go_sem, recoverD, hu, Tryz.ntmps127, Exit.thenS]
 apply wpSIn_seq
 apply wpSIn_region
 simp [wpOpsSIn, go_sem, Exit.thenS]
 refine wpSIn_cond (t := false) (by simp [Act.eval, Array.replicate]) ?_
 simp only [Bool.false_eq_true, if_false]
 refine wpSIn_of_wpIn rfl (wpIn_skip ?_)
 cases c₀
 simp_all [bodyPostS, results, Tryz.results127]
theorem Qnr (p q : Value) (w w' : World) (h : Kql Tryz.prog [p, q] [(0, 24, none), (1, 4, some false)] (w.alloc (.cells #[] 186)) w') :
  CallsDIn (Fe none) 0 Tryz.prog 127 #[p, q] (.panicking (panicked 186)) w fun e u' w'' => (∃ v, e = .returned v) ∧ settle u' = .returning ∧ w'' = w' := by
 obtain ⟨w1, h1, w2, h2, h3⟩ := h
 simp only [Kql] at h3
 subst h3
 have hta : ∀ w, (Instr.typeAssert (.iface 186 (.agg #[])) 20 186 true).run Tryz.prog w = .ok (.tuple #[.agg #[], .bool true]) w := fun w => by kernel_rfl
 refine callsDIn_of_wpSIn Tryz.func127 rfl trivial fun c₀ cs hu => ?_
 apply wpSIn_seq
 apply wpSIn_region
 simp [wpOpsSIn, go_sem, recoverD, hu, Tryz.ntmps127, Exit.thenS, panicked]
 apply wpSIn_seq
 apply wpSIn_region
 simp [wpOpsSIn, go_sem, Exit.thenS]
 refine wpSIn_cond (t := true) (by simp [Act.eval, Array.replicate]) ?_
 simp only [if_true]
 apply wpSIn_seq
 apply wpSIn_seq
 apply wpSIn_region
 simp [wpOpsSIn, go_sem, Exit.thenS, hta]
 apply wpSIn_seq
 apply wpSIn_region
 simp [wpOpsSIn, go_sem, Exit.thenS]
 refine wpSIn_cond (t := false) (by simp [Act.eval, Array.replicate]) ?_
 simp only [Bool.false_eq_true, if_false]
 refine wpSIn_of_wpIn rfl (wpIn_skip ?_)
 simp only [Exit.thenS]
 apply wpSIn_region
 have g1 : (Instr.storeAt 24 p (.slice none 0 0)).run Tryz.prog (w.alloc (.cells #[] 186)) = .ok () w1 := h1
 have g2 : (Instr.storeAt 4 q (.bool false)).run Tryz.prog w1 = .ok () w' := h2
 show wpOpsSIn (Fe none) 0 Tryz.prog _ _ [0, 1] _ _ _
 simp [wpOpsSIn, execOp, Act.eval, Act.put, Region.wanted, g1, g2, bodyPostS, results, Tryz.results127, settle]
 exact ⟨fun _ _ => trivial, fun _ _ => trivial⟩
theorem Qns  : K6j Tryz.prog rcvs := by
 intro f rc h
 unfold rcvs at h
 cases hf : Nat.beq f 88 with
 | false => rw [hf] at h; cases h
 | true =>
  rw [hf] at h
  cases h
  have two : ∀ caps : Array Value, caps.size = 2 → ∃ p q, caps = #[p, q] := fun caps h => by
   obtain ⟨l⟩ := caps
   match l, h with
   | [p, q], _ => exact ⟨p, q, rfl⟩
  refine ⟨⟨Tryz.f127, Tryz.func127, by kernel_rfl, by kernel_rfl⟩, fun caps w h => ?_, fun caps w h => ⟨.cells #[] 186, fun w' hs => ?_⟩⟩
  ·obtain ⟨p, q, rfl⟩ := two caps h
   exact Qnq p q w
  ·obtain ⟨p, q, rfl⟩ := two caps h
   exact Qnr p q w w' hs
end Go.AI
namespace Go.AI
open Go
open Go.Proofs.Tryz (prog)
set_option linter.unusedVariables false
@[reducible] def J5h  : List PM := [.d (.int .u32)]
def Kdo  : Orc := Orc.of J5h true 0 fun x => (J1g x.1, [.d (.int .u32) (Jld x.1)])
@[reducible] def Jhe  : Tpl := { cur := ⟨[(0, .var (.int .u32)), (3, .var (.int .i64))], 11⟩, stk := [⟨[], 0⟩], heap := [] }
def Ku8  : List (FuncId × Orc) := []
def J3g  : Book := { Γ := gam, orc := Jbc Ku8, hint := Jav [(178, { keep := some [0, 4], keeps := [(2, [0, 4])], own := [], dat := [], stk := [] })] }
def Ku9 (F : Nat) (nx : Jhe.T → ZO) (kq : ZK) (x : Jhe.T) : ZO := J4j F none (fun register s4 => nx ((register, (s4, ())), (((), ()), ()))) (fun y0 y1 => kq (.exit 0) (Jhe.inst ((y0, (y1, ())), (((), ()), ())))) x.1.1 x.1.2.1
def Kva (F m : Nat) (x : Jhe.T) (kq : ZK) : ZO := Jnn F none (fun y0 y1 => kq (.exit 0) (Jhe.inst ((y0, (y1, ())), (((), ()), ())))) m x.1.1 x.1.2.1
def Kj0 (F : Nat) : List (LoE Unit) := [⟨178, 2, LO.of Jhe (Kva F F)⟩]
def Jvk (F : Nat) : Jbu Unit := { toBook := J3g, lo := Jcf (Kj0 F), need := Jaw [] }
theorem Kdp (F : Nat) : Jbn prog (Jvk F) F 178 0 2 Jhe (Ku9 F) := fun d x KQ => by kernel_rfl
theorem Kvb (F : Nat) : Jhk prog (Jvk F) F := Ja0 (l := Kj0 F) rfl (fa (Jal 0 (by kernel_rfl) (by kernel_rfl) (Jah (Kdp F) (fun _ _ => rfl) (fun _ _ _ _ => rfl))) fz)
theorem K18 (F : Nat) (x : Jaz J5h) (kend : List BV → ZO) : Jam prog (Jvk F) F 20 178 (Jae J5h x) [.d (.int .u32)] kend = Kyo F x.1 none (fun y0 => kend [BV.d (.int .u32) y0]) := by kernel_rfl
theorem J73  : Jad prog 178 Kdo := Jap (B0 := J3g) bkN bkG Jao bkT K18 (Jac fz) (by kernel_rfl) (fun _ => rfl) Kvb (fun x h => (Km6 x.1 h).elim fun F hF => ⟨F, fun kend => hF none _⟩)
@[reducible] def Kdq  : List PM := []
def Kj1  : Orc := Orc.of Kdq true 0 fun x => (J8x, [.d (.arr 256 (.int .u32)) (Jl6)])
@[reducible] def Jiy  : Tpl := { cur := ⟨[(0, .ptr 0 []), (0, .ptr 1 []), (1, .var (.int .i64))], 9⟩, stk := [⟨[], 0⟩], heap := [.box (.var (.arr 256 (.int .u32))), .box (.var (.arr 256 (.int .u32)))] }
def K19  : List (FuncId × Orc) := [(178, Kdo)]
def J60  : Book := { Γ := gam, orc := Jbc K19, hint := Jav [(170, { keep := some [0, 1, 3], keeps := [(3, [0, 1, 3])], own := [], dat := [], stk := [] })] }
def K2a (F : Nat) (nx : Jiy.T → ZO) (kq : ZK) (x : Jiy.T) : ZO := Kba F none (fun s3 s0 out => nx (((), ((), (s3, ()))), (((), ()), (s0, (out, ()))))) (fun y0 y1 y2 => kq (.exit 0) (Jiy.inst (((), ((), (y0, ()))), (((), ()), (y1, (y2, ())))))) x.1.2.2.1 x.2.2.1 x.2.2.2.1
def K2b (F m : Nat) (x : Jiy.T) (kq : ZK) : ZO := Jqn F none (fun y0 y1 y2 => kq (.exit 0) (Jiy.inst (((), ((), (y0, ()))), (((), ()), (y1, (y2, ())))))) m x.1.2.2.1 x.2.2.1 x.2.2.2.1
def Kvc (F : Nat) : List (LoE Unit) := [⟨170, 3, LO.of Jiy (K2b F F)⟩]
def J0c (F : Nat) : Jbu Unit := { toBook := J60, lo := Jcf (Kvc F), need := Jaw [] }
theorem Kgr (F : Nat) : Jbn prog (J0c F) F 170 0 3 Jiy (K2a F) := fun d x KQ => by kernel_rfl
theorem K2c (F : Nat) : Jhk prog (J0c F) F := Ja0 (l := Kvc F) rfl (fa (Jal 0 (by kernel_rfl) (by kernel_rfl) (Jah (Kgr F) (fun _ _ => rfl) (fun _ _ _ _ => rfl))) fz)
theorem K8p (F : Nat) (x : Jaz Kdq) (kend : List BV → ZO) : Jam prog (J0c F) F 20 170 (Jae Kdq x) [.d (.arr 256 (.int .u32))] kend = Qb9 F  none (fun y0 => kend [BV.d (.arr 256 (.int .u32)) y0]) := by kernel_rfl
theorem Kdr  : Jad prog 170 Kj1 := Jap (B0 := J60) bkN bkG Jao bkT K8p (Jac (fa J73 fz)) (by kernel_rfl) (fun _ => rfl) K2c (fun x h => (Kr7  h).elim fun F hF => ⟨F, fun kend => hF none _⟩)
@[reducible] def K2d  : List PM := [.d (.int .u32), .d (.slc (.int .u8))]
def K5q  : Orc := Orc.of K2d true 0 fun x => (Kq7 x.1 x.2.1, [.d (.int .u32) (Kig x.1 x.2.1)])
@[reducible] def Jog  : Tpl := { cur := ⟨[(0, .hnd .yield 0), (4, .var (.slc (.int .u8))), (0, .var (.int .i64)), (0, .var (.int .i64))], 8⟩, stk := [⟨[(0, .hnd .yield 0)], 0⟩, ⟨[(1, .fn 171 (.pr (.ptr 3 []) (.un))), (0, .ptr 1 []), (1, .var (.int .u32))], 15⟩, ⟨[(6, .var (.int .u32))], 4⟩, ⟨[], 0⟩], heap := [.lp 159 3 ⟨[(2, .ptr 1 []), (2, .ptr 2 [])], 14⟩ .ready, .box (.var (.int .u32)), .box (.var (.arr 256 (.int .u32))), .box (.var (.slc (.int .u8)))] }
def Qfn  : List (FuncId × Orc) := [(170, Kj1)]
def Kj2  : Book := { Γ := gam, orc := Jbc Qfn, hint := Jav [(171, { keep := some [0, 5, 6, 7], keeps := [(1, [0, 5, 6, 7])], own := [], dat := [], stk := [[0], [1, 2, 4, 6, 9], [6]] })] }
def Qfo (F : Nat) (nx : Jog.T → ZO) (kq : ZK) (x : Jog.T) : ZO := Kma F none (fun s5 s6 s7 s4 s61 register t bytes => nx (((), (s5, (s6, (s7, ())))), ((((), ()), ((((), ()), ((), (s4, ()))), ((s61, ()), ((), ())))), (((), ((), ())), (register, (t, (bytes, ()))))))) (fun y0 y1 y2 y3 y4 y5 y6 y7 => kq (.exit 0) (Jog.inst (((), (y0, (y1, (y2, ())))), ((((), ()), ((((), ()), ((), (y3, ()))), ((y4, ()), ((), ())))), (((), ((), ())), (y5, (y6, (y7, ())))))))) x.1.2.1 x.1.2.2.1 x.1.2.2.2.1 x.2.1.2.1.2.2.1 x.2.1.2.2.1.1 x.2.2.2.1 x.2.2.2.2.1 x.2.2.2.2.2.1
def Qfp (F m : Nat) (x : Jog.T) (kq : ZK) : ZO := Jxa F none (fun y0 y1 y2 y3 y4 y5 y6 y7 => kq (.exit 0) (Jog.inst (((), (y0, (y1, (y2, ())))), ((((), ()), ((((), ()), ((), (y3, ()))), ((y4, ()), ((), ())))), (((), ((), ())), (y5, (y6, (y7, ())))))))) m x.1.2.1 x.1.2.2.1 x.1.2.2.2.1 x.2.1.2.1.2.2.1 x.2.1.2.2.1.1 x.2.2.2.1 x.2.2.2.2.1 x.2.2.2.2.2.1
def Qfq (F : Nat) : List (LoE Unit) := [⟨171, 1, LO.of Jog (Qfp F F)⟩]
def Kds (F : Nat) : Jbu Unit := { toBook := Kj2, lo := Jcf (Qfq F), need := Jaw [(171, 1)] }
theorem Kvd (F : Nat) : Jbn prog (Kds F) F 171 0 1 Jog (Qfo F) := fun d x KQ => by kernel_rfl
theorem Qfr (F : Nat) : Jhk prog (Kds F) F := Ja0 (l := Qfq F) rfl (fa (Jal 0 (by kernel_rfl) (by kernel_rfl) (Jah (Kvd F) (fun _ _ => rfl) (fun _ _ _ _ => rfl))) fz)
theorem Qjq (F : Nat) (x : Jaz K2d) (kend : List BV → ZO) : Jam prog (Kds F) F 20 145 (Jae K2d x) [.d (.int .u32)] kend = cUpd F x.1 x.2.1 none (fun y0 => kend [BV.d (.int .u32) y0]) := by kernel_rfl
theorem Kor  : Jad prog 145 K5q := Jap (B0 := Kj2) bkN bkG Jao bkT Qjq (Jac (fa Kdr fz)) (by kernel_rfl) (fun _ => rfl) Qfr (fun x h => (K7m x.1 x.2.1 h).elim fun F hF => ⟨F, fun kend => hF none _⟩)
@[reducible] def K2e  : List PM := [.d (.slc (.int .u8))]
def Kos  : Orc := Orc.of K2e true 0 fun x => (Kih x.1, [.d (.int .u32) (Ka0 x.1)])
def Kve  : List (FuncId × Orc) := [(145, K5q)]
theorem Qjr (F : Nat) (x : Jaz K2e) (kend : List BV → ZO) : Jam prog (bkZ Kve) F 20 110 (Jae K2e x) [.d (.int .u32)] kend = cSum F x.1 none (fun y0 => kend [BV.d (.int .u32) y0]) := by kernel_rfl
theorem J3h  : Jad prog 110 Kos := Jap (B0 := bkY Kve) bkN bkG Jao bkT Qjr (Jac (fa Kor fz)) (by kernel_rfl) (fun _ => rfl) (bkO _) (fun x h => (K7o x.1 h).elim fun F hF => ⟨F, fun kend => hF none _⟩)
@[reducible] def K2f  : List PM := [.d (.int .u32), .d (.int .u8)]
def K5r  : Orc := Orc.of K2f true 0 fun x => (K34 x.1 x.2.1, [.d (.int .u32) (Kii x.1 x.2.1)])
@[reducible] def Joh  : Tpl := { cur := ⟨[(0, .var (.int .u32)), (4, .var (.int .i64))], 17⟩, stk := [⟨[], 0⟩], heap := [] }
def Qfs  : List (FuncId × Orc) := []
def Kj3  : Book := { Γ := gam, orc := Jbc Qfs, hint := Jav [(161, { keep := some [0, 5], keeps := [(3, [0, 5])], own := [], dat := [], stk := [] })] }
def Qft (F : Nat) (nx : Joh.T → ZO) (kq : ZK) (x : Joh.T) : ZO := Kyp F none (fun r i => nx ((r, (i, ())), (((), ()), ()))) (fun y0 y1 => kq (.exit 0) (Joh.inst ((y0, (y1, ())), (((), ()), ())))) x.1.1 x.1.2.1
def Qfu (F m : Nat) (x : Joh.T) (kq : ZK) : ZO := J2a F none (fun y0 y1 => kq (.exit 0) (Joh.inst ((y0, (y1, ())), (((), ()), ())))) m x.1.1 x.1.2.1
def Qfv (F : Nat) : List (LoE Unit) := [⟨161, 3, LO.of Joh (Qfu F F)⟩]
def Kdt (F : Nat) : Jbu Unit := { toBook := Kj3, lo := Jcf (Qfv F), need := Jaw [] }
theorem Kvf (F : Nat) : Jbn prog (Kdt F) F 161 0 3 Joh (Qft F) := fun d x KQ => by kernel_rfl
theorem Qfw (F : Nat) : Jhk prog (Kdt F) F := Ja0 (l := Qfv F) rfl (fa (Jal 0 (by kernel_rfl) (by kernel_rfl) (Jah (Kvf F) (fun _ _ => rfl) (fun _ _ _ _ => rfl))) fz)
theorem Qjs (F : Nat) (x : Jaz K2f) (kend : List BV → ZO) : Jam prog (Kdt F) F 20 161 (Jae K2f x) [.d (.int .u32)] kend = kReg F x.1 x.2.1 none (fun y0 => kend [BV.d (.int .u32) y0]) := by kernel_rfl
theorem Kot  : Jad prog 161 K5r := Jap (B0 := Kj3) bkN bkG Jao bkT Qjs (Jac fz) (by kernel_rfl) (fun _ => rfl) Qfw (fun x h => (K7l x.1 x.2.1 h).elim fun F hF => ⟨F, fun kend => hF none _⟩)
@[reducible] def K2g  : List PM := [.d (.int .u32), .d (.slc (.int .u8))]
def K5s  : Orc := Orc.of K2g true 0 fun x => (Kq8 x.1 x.2.1, [.d (.int .u32) (K35 x.1 x.2.1)])
@[reducible] def Joi  : Tpl := { cur := ⟨[(1, .var (.slc (.int .u8))), (3, .var (.int .u32)), (0, .var (.int .i64))], 16⟩, stk := [⟨[], 0⟩], heap := [] }
def Qfx  : List (FuncId × Orc) := [(161, K5r)]
def Kj4  : Book := { Γ := gam, orc := Jbc Qfx, hint := Jav [(146, { keep := some [1, 5, 6], keeps := [(3, [1, 5, 6])], own := [], dat := [], stk := [] })] }
def Qfy (F : Nat) (nx : Joi.T → ZO) (kq : ZK) (x : Joi.T) : ZO := Kmb F none (fun b r i => nx ((b, (r, (i, ()))), (((), ()), ()))) (fun y0 y1 y2 => kq (.exit 0) (Joi.inst ((y0, (y1, (y2, ()))), (((), ()), ())))) x.1.1 x.1.2.1 x.1.2.2.1
def Qfz (F m : Nat) (x : Joi.T) (kq : ZK) : ZO := Jxb F none (fun y0 y1 y2 => kq (.exit 0) (Joi.inst ((y0, (y1, (y2, ()))), (((), ()), ())))) m x.1.1 x.1.2.1 x.1.2.2.1
def Qf0 (F : Nat) : List (LoE Unit) := [⟨146, 3, LO.of Joi (Qfz F F)⟩]
def Kdu (F : Nat) : Jbu Unit := { toBook := Kj4, lo := Jcf (Qf0 F), need := Jaw [] }
theorem Kvg (F : Nat) : Jbn prog (Kdu F) F 146 0 3 Joi (Qfy F) := fun d x KQ => by kernel_rfl
theorem Qf1 (F : Nat) : Jhk prog (Kdu F) F := Ja0 (l := Qf0 F) rfl (fa (Jal 0 (by kernel_rfl) (by kernel_rfl) (Jah (Kvg F) (fun _ _ => rfl) (fun _ _ _ _ => rfl))) fz)
theorem Qjt (F : Nat) (x : Jaz K2g) (kend : List BV → ZO) : Jam prog (Kdu F) F 20 146 (Jae K2g x) [.d (.int .u32)] kend = kUpd F x.1 x.2.1 none (fun y0 => kend [BV.d (.int .u32) y0]) := by kernel_rfl
theorem Kou  : Jad prog 146 K5s := Jap (B0 := Kj4) bkN bkG Jao bkT Qjt (Jac (fa Kot fz)) (by kernel_rfl) (fun _ => rfl) Qf1 (fun x h => (K7n x.1 x.2.1 h).elim fun F hF => ⟨F, fun kend => hF none _⟩)
@[reducible] def K2h  : List PM := [.d (.slc (.int .u8))]
def K5t  : Orc := Orc.of K2h true 0 fun x => (K36 x.1, [.d (.int .u32) (Kq9 x.1)])
def Kvh  : List (FuncId × Orc) := [(146, K5s)]
theorem Qju (F : Nat) (x : Jaz K2h) (kend : List BV → ZO) : Jam prog (bkZ Kvh) F 20 116 (Jae K2h x) [.d (.int .u32)] kend = kSum F x.1 none (fun y0 => kend [BV.d (.int .u32) y0]) := by kernel_rfl
theorem Kov  : Jad prog 116 K5t := Jap (B0 := bkY Kvh) bkN bkG Jao bkT Qju (Jac (fa Kou fz)) (by kernel_rfl) (fun _ => rfl) (bkO _) (fun x h => (K7p x.1 h).elim fun F hF => ⟨F, fun kend => hF none _⟩)
@[reducible] def Kdv  : List PM := [.d (.int .i64)]
def Jxu  : Orc := Orc.of Kdv true 0 fun x => (Jjs x.1, [.d (.int .i64) (Jh4 x.1)])
def Kdw  : List (FuncId × Orc) := []
theorem K8q (F : Nat) (x : Jaz Kdv) (kend : List BV → ZO) : Jam prog (bkZ Kdw) F 20 107 (Jae Kdv x) [.d (.int .i64)] kend = Qca F x.1 none (fun y0 => kend [BV.d (.int .i64) y0]) := by kernel_rfl
theorem Joj  : Jad prog 107 Jxu := Jap (B0 := bkY Kdw) bkN bkG Jao bkT K8q (Jac fz) (by kernel_rfl) (fun _ => rfl) (bkO _) (fun x h => (Kse x.1 h).elim fun F hF => ⟨F, fun kend => hF none _⟩)
@[reducible] def Kdx  : List PM := [.d (.int .i64)]
def Kj5  : Orc := Orc.of Kdx true 0 fun x => (J8y x.1, [.d (.int .i64) (Jkv x.1)])
def Kdy  : List (FuncId × Orc) := [(107, Jxu)]
theorem K8r (F : Nat) (x : Jaz Kdx) (kend : List BV → ZO) : Jam prog (bkZ Kdy) F 20 58 (Jae Kdx x) [.d (.int .i64)] kend = Qcb F x.1 none (fun y0 => kend [BV.d (.int .i64) y0]) := by kernel_rfl
theorem Kdz  : Jad prog 58 Kj5 := Jap (B0 := bkY Kdy) bkN bkG Jao bkT K8r (Jac (fa Joj fz)) (by kernel_rfl) (fun _ => rfl) (bkO _) (fun x h => (Ksg x.1 h).elim fun F hF => ⟨F, fun kend => hF none _⟩)
@[reducible] def Kd0  : List PM := [.d (.pair (.int .i64) (.pair (.int .i64) (.pair (.int .i64) .unit)))]
def J5i  : Orc := Orc.of Kd0 true 0 fun x => (true, [.d (.int .i64) (Jl7 x.1)])
def Kd1  : List (FuncId × Orc) := []
theorem K8s (F : Nat) (x : Jaz Kd0) (kend : List BV → ZO) : Jam prog (bkZ Kd1) F 20 24 (Jae Kd0 x) [.d (.int .i64)] kend = Qcc F x.1 none (fun y0 => kend [BV.d (.int .i64) y0]) := by kernel_rfl
theorem Jvl  : Jad prog 24 J5i := Jap (B0 := bkY Kd1) bkN bkG Jao bkT K8s (Jac fz) (by kernel_rfl) (fun _ => rfl) (bkO _) (fun x _ => (Ksh x.1).elim fun F hF => ⟨F, fun kend => hF none _⟩)
@[reducible] def Kow  : List PM := []
def Kvi  : Orc := Orc.of Kow true 0 fun x => (Kls, [.d (.arr 16 (.int .u8)) (Klt)])
def Kj6  : List (FuncId × Orc) := []
theorem Qf2 (F : Nat) (x : Jaz Kow) (kend : List BV → ZO) : Jam prog (bkZ Kj6) F 20 40 (Jae Kow x) [.d (.arr 16 (.int .u8))] kend = Qou F  none (fun y0 => kend [BV.d (.arr 16 (.int .u8)) y0]) := by kernel_rfl
theorem Kgs  : Jad prog 40 Kvi := Jap (B0 := bkY Kj6) bkN bkG Jao bkT Qf2 (Jac fz) (by kernel_rfl) (fun _ => rfl) (bkO _) (fun x h => (Kzn  h).elim fun F hF => ⟨F, fun kend => hF none _⟩)
@[reducible] def Kd2  : List PM := [.d (.slc (.int .u8))]
def Kj7  : Orc := Orc.of Kd2 true 0 fun x => (Jo0 x.1, [.d (.int .i64) (Jck x.1)])
@[reducible] def Jiz  : Tpl := { cur := ⟨[(3, .var (.int .i64)), (2, .var (.slc (.int .u8))), (0, .var (.int .i64)), (0, .var (.int .i64))], 10⟩, stk := [⟨[], 0⟩], heap := [] }
def K2i  : List (FuncId × Orc) := []
def J61  : Book := { Γ := gam, orc := Jbc K2i, hint := Jav [(129, { keep := some [3, 6, 7, 8], keeps := [(3, [3, 6, 7, 8])], own := [], dat := [], stk := [] })] }
def K2j (F : Nat) (nx : Jiz.T → ZO) (kq : ZK) (x : Jiz.T) : ZO := J2b F none (fun n s6 s7 s8 => nx ((n, (s6, (s7, (s8, ())))), (((), ()), ()))) (fun y0 y1 y2 y3 => kq (.exit 0) (Jiz.inst ((y0, (y1, (y2, (y3, ())))), (((), ()), ())))) x.1.1 x.1.2.1 x.1.2.2.1 x.1.2.2.2.1
def K2k (F m : Nat) (x : Jiz.T) (kq : ZK) : ZO := Jm1 F none (fun y0 y1 y2 y3 => kq (.exit 0) (Jiz.inst ((y0, (y1, (y2, (y3, ())))), (((), ()), ())))) m x.1.1 x.1.2.1 x.1.2.2.1 x.1.2.2.2.1
def Kvj (F : Nat) : List (LoE Unit) := [⟨129, 3, LO.of Jiz (K2k F F)⟩]
def J0d (F : Nat) : Jbu Unit := { toBook := J61, lo := Jcf (Kvj F), need := Jaw [] }
theorem Kgt (F : Nat) : Jbn prog (J0d F) F 129 0 3 Jiz (K2j F) := fun d x KQ => by kernel_rfl
theorem K2l (F : Nat) : Jhk prog (J0d F) F := Ja0 (l := Kvj F) rfl (fa (Jal 0 (by kernel_rfl) (by kernel_rfl) (Jah (Kgt F) (fun _ _ => rfl) (fun _ _ _ _ => rfl))) fz)
theorem K8t (F : Nat) (x : Jaz Kd2) (kend : List BV → ZO) : Jam prog (J0d F) F 20 129 (Jae Kd2 x) [.d (.int .i64)] kend = Qcd F x.1 none (fun y0 => kend [BV.d (.int .i64) y0]) := by kernel_rfl
theorem Kd3  : Jad prog 129 Kj7 := Jap (B0 := J61) bkN bkG Jao bkT K8t (Jac fz) (by kernel_rfl) (fun _ => rfl) K2l (fun x h => (Ksb x.1 h).elim fun F hF => ⟨F, fun kend => hF none _⟩)
@[reducible] def K2m  : List PM := [.d (.slc (.int .u8)), .d (.int .i64)]
def K5u  : Orc := Orc.of K2m true 0 fun x => (J1j x.1 x.2.1, [.d (.arr 16 (.int .u8)) (J1k x.1 x.2.1)])
@[reducible] def Jok  : Tpl := { cur := ⟨[(0, .sl 0), (0, .var (.int .i64)), (4, .var (.int .i64)), (0, .var (.int .i64))], 15⟩, stk := [⟨[(0, .var (.slc (.int .u8))), (3, .ptr 1 []), (0, .ptr 0 [])], 19⟩, ⟨[], 0⟩], heap := [.box (.var (.arr 16 (.int .u8))), .box (.var (.arr 16 (.int .u8)))] }
@[reducible] def Jol  : Tpl := { cur := ⟨[(0, .sl 0), (0, .var (.int .i64)), (4, .var (.int .i64)), (0, .var (.int .i64))], 15⟩, stk := [⟨[(0, .var (.slc (.int .u8))), (3, .ptr 1 []), (0, .ptr 0 []), (4, .sl 0)], 14⟩, ⟨[], 0⟩], heap := [.box (.var (.arr 16 (.int .u8))), .box (.var (.arr 16 (.int .u8)))] }
@[reducible] def Jom  : Tpl := { cur := ⟨[(0, .sl 0), (0, .var (.int .i64)), (4, .var (.int .i64)), (0, .var (.int .i64))], 15⟩, stk := [⟨[(0, .var (.slc (.int .u8))), (3, .ptr 1 []), (0, .ptr 0 []), (4, .sl 0), (8, .sl 0)], 5⟩, ⟨[], 0⟩], heap := [.box (.var (.arr 16 (.int .u8))), .box (.var (.arr 16 (.int .u8)))] }
def Qf3  : List (FuncId × Orc) := [(107, Jxu), (110, Kos)]
def Kj8  : Book := { Γ := gam, orc := Jbc Qf3, hint := Jav [(109, { keep := some [0, 1, 6, 7], keeps := [(1, [0, 1, 6, 7])], own := [], dat := [], stk := [[0, 4, 5, 10, 19]] })] }
def Qf4 (F : Nat) (nx : Jok.T → ZO) (kq : ZK) (x : Jok.T) : ZO := Kmc F none (fun to_i to_n n s6 s7 payload to s4 => nx (((to_i, to_n), (n, (s6, (s7, ())))), (((payload, ((), ((), ()))), ((), ())), (to, (s4, ()))))) (fun y0 y1 y2 y3 y4 y5 y6 y7 => kq (.exit 0) (Jok.inst (((y0, y1), (y2, (y3, (y4, ())))), (((y5, ((), ((), ()))), ((), ())), (y6, (y7, ())))))) x.1.1.1 x.1.1.2 x.1.2.1 x.1.2.2.1 x.1.2.2.2.1 x.2.1.1.1 x.2.2.1 x.2.2.2.1
def Qf5 (F m : Nat) (x : Jok.T) (kq : ZK) : ZO := Jse F none (fun y0 y1 y2 y3 y4 y5 y6 y7 => kq (.exit 0) (Jok.inst (((y0, y1), (y2, (y3, (y4, ())))), (((y5, ((), ((), ()))), ((), ())), (y6, (y7, ())))))) m x.1.1.1 x.1.1.2 x.1.2.1 x.1.2.2.1 x.1.2.2.2.1 x.2.1.1.1 x.2.2.1 x.2.2.2.1
def Qf6 (F : Nat) (nx : Jol.T → ZO) (kq : ZK) (x : Jol.T) : ZO := Kmd F none (fun to_i to_n n s6 s7 payload s10_i s10_n to s4 => nx (((to_i, to_n), (n, (s6, (s7, ())))), (((payload, ((), ((), ((s10_i, s10_n), ())))), ((), ())), (to, (s4, ()))))) (fun y0 y1 y2 y3 y4 y5 y6 y7 y8 y9 => kq (.exit 0) (Jol.inst (((y0, y1), (y2, (y3, (y4, ())))), (((y5, ((), ((), ((y6, y7), ())))), ((), ())), (y8, (y9, ())))))) x.1.1.1 x.1.1.2 x.1.2.1 x.1.2.2.1 x.1.2.2.2.1 x.2.1.1.1 x.2.1.1.2.2.2.1.1 x.2.1.1.2.2.2.1.2 x.2.2.1 x.2.2.2.1
def Qf7 (F m : Nat) (x : Jol.T) (kq : ZK) : ZO := Jpe F none (fun y0 y1 y2 y3 y4 y5 y6 y7 y8 y9 => kq (.exit 0) (Jol.inst (((y0, y1), (y2, (y3, (y4, ())))), (((y5, ((), ((), ((y6, y7), ())))), ((), ())), (y8, (y9, ())))))) m x.1.1.1 x.1.1.2 x.1.2.1 x.1.2.2.1 x.1.2.2.2.1 x.2.1.1.1 x.2.1.1.2.2.2.1.1 x.2.1.1.2.2.2.1.2 x.2.2.1 x.2.2.2.1
def Qf8 (F : Nat) (nx : Jom.T → ZO) (kq : ZK) (x : Jom.T) : ZO := Kme F none (fun to_i to_n n s6 s7 payload s10_i s10_n s19_i s19_n to s4 => nx (((to_i, to_n), (n, (s6, (s7, ())))), (((payload, ((), ((), ((s10_i, s10_n), ((s19_i, s19_n), ()))))), ((), ())), (to, (s4, ()))))) (fun y0 y1 y2 y3 y4 y5 y6 y7 y8 y9 y10 y11 => kq (.exit 0) (Jom.inst (((y0, y1), (y2, (y3, (y4, ())))), (((y5, ((), ((), ((y6, y7), ((y8, y9), ()))))), ((), ())), (y10, (y11, ())))))) x.1.1.1 x.1.1.2 x.1.2.1 x.1.2.2.1 x.1.2.2.2.1 x.2.1.1.1 x.2.1.1.2.2.2.1.1 x.2.1.1.2.2.2.1.2 x.2.1.1.2.2.2.2.1.1 x.2.1.1.2.2.2.2.1.2 x.2.2.1 x.2.2.2.1
def Qf9 (F m : Nat) (x : Jom.T) (kq : ZK) : ZO := Jsf F none (fun y0 y1 y2 y3 y4 y5 y6 y7 y8 y9 y10 y11 => kq (.exit 0) (Jom.inst (((y0, y1), (y2, (y3, (y4, ())))), (((y5, ((), ((), ((y6, y7), ((y8, y9), ()))))), ((), ())), (y10, (y11, ())))))) m x.1.1.1 x.1.1.2 x.1.2.1 x.1.2.2.1 x.1.2.2.2.1 x.2.1.1.1 x.2.1.1.2.2.2.1.1 x.2.1.1.2.2.2.1.2 x.2.1.1.2.2.2.2.1.1 x.2.1.1.2.2.2.2.1.2 x.2.2.1 x.2.2.2.1
def Qga (F : Nat) : List (LoE Unit) := [⟨109, 1, LO.orT Jok (Qf5 F F) (LO.orT Jol (Qf7 F F) (LO.of Jom (Qf9 F F)))⟩]
def Jvm (F : Nat) : Jbu Unit := { toBook := Kj8, lo := Jcf (Qga F), need := Jaw [] }
theorem Kvk (F : Nat) : Jbn prog (Jvm F) F 109 0 1 Jok (Qf4 F) := fun d x KQ => by kernel_rfl
theorem Kvl (F : Nat) : Jbn prog (Jvm F) F 109 0 1 Jol (Qf6 F) := fun d x KQ => by kernel_rfl
theorem Kvm (F : Nat) : Jbn prog (Jvm F) F 109 0 1 Jom (Qf8 F) := fun d x KQ => by kernel_rfl
theorem Qgb (F : Nat) : Jhk prog (Jvm F) F := Ja0 (l := Qga F) rfl (fa (Jal 0 (by kernel_rfl) (by kernel_rfl) (Kld (Jah (Kvk F) (fun _ _ => rfl) (fun _ _ _ _ => rfl)) (Kld (Jah (Kvl F) (fun _ _ => rfl) (fun _ _ _ _ => rfl)) (Jah (Kvm F) (fun _ _ => rfl) (fun _ _ _ _ => rfl))))) fz)
theorem Qjv (F : Nat) (x : Jaz K2m) (kend : List BV → ZO) : Jam prog (Jvm F) F 20 62 (Jae K2m x) [.d (.arr 16 (.int .u8))] kend = lEnd F x.1 x.2.1 none (fun y0 => kend [BV.d (.arr 16 (.int .u8)) y0]) := by kernel_rfl
theorem Kox  : Jad prog 62 K5u := Jap (B0 := Kj8) bkN bkG Jao bkT Qjv (Jac (fa Joj (fa J3h fz))) (by kernel_rfl) (fun _ => rfl) Qgb (fun x h => (K7r x.1 x.2.1 h).elim fun F hF => ⟨F, fun kend => hF none _⟩)
@[reducible] def Kd4  : List PM := [.d (.int .i64), .d (.slc (.arr 16 (.int .u8)))]
def Kj9  : Orc := Orc.of Kd4 false 0 fun x => (Jrw x.1 x.2.1, [.d (.pair (.int .i64) (.pair (.int .i64) (.pair (.slc (.arr 16 (.int .u8))) .unit))) (Jrx x.1 x.2.1)])
def Kd5  : List (FuncId × Orc) := []
theorem K8u (F : Nat) (x : Jaz Kd4) (kend : List BV → ZO) : Jam prog (bkZ Kd5) F 20 60 (Jae Kd4 x) [.d (.pair (.int .i64) (.pair (.int .i64) (.pair (.slc (.arr 16 (.int .u8))) .unit)))] kend = Qkh F x.1 x.2.1 none (fun y0 => kend [BV.d (.pair (.int .i64) (.pair (.int .i64) (.pair (.slc (.arr 16 (.int .u8))) .unit))) y0]) := by kernel_rfl
theorem Kd6  : Jad prog 60 Kj9 := Jap (B0 := bkY Kd5) bkN bkG Jao bkT K8u (Jac fz) (by kernel_rfl) (fun _ => rfl) (bkO _) (fun x h => (Ksi x.1 x.2.1 h).elim fun F hF => ⟨F, fun kend => hF none _⟩)
@[reducible] def Koy  : List PM := []
def Kvn  : Orc := Orc.of Koy false 0 fun x => (Jzg, [.d (.pair (.int .i64) (.pair (.int .i64) (.pair (.slc (.arr 16 (.int .u8))) .unit))) (Jzh)])
def Kka  : List (FuncId × Orc) := []
theorem Qgc (F : Nat) (x : Jaz Koy) (kend : List BV → ZO) : Jam prog (bkZ Kka) F 20 61 (Jae Koy x) [.d (.pair (.int .i64) (.pair (.int .i64) (.pair (.slc (.arr 16 (.int .u8))) .unit)))] kend = Qov F  none (fun y0 => kend [BV.d (.pair (.int .i64) (.pair (.int .i64) (.pair (.slc (.arr 16 (.int .u8))) .unit))) y0]) := by kernel_rfl
theorem Kgu  : Jad prog 61 Kvn := Jap (B0 := bkY Kka) bkN bkG Jao bkT Qgc (Jac fz) (by kernel_rfl) (fun _ => rfl) (bkO _) (fun x h => (Kzo  h).elim fun F hF => ⟨F, fun kend => hF none _⟩)
@[reducible] def Jhs  : Tpl := { cur := ⟨[(0, .var (.slc (.int .u8))), (0, .fn 132 (.un)), (2, .var (.int .i64)), (2, .var (.int .i64)), (0, .var (.int .i64))], 10⟩, stk := [⟨[], 9⟩, ⟨[], 0⟩], heap := [] }
def K8v  : List (FuncId × Orc) := []
def Kd7  : Book := { Γ := gam, orc := Jbc K8v, hint := Jav [(151, { keep := some [0, 1, 4, 7, 8], keeps := [(2, [0, 1, 4, 7, 8])], own := [], dat := [], stk := [[]] })] }
def K8w (F : Nat) (nx : Jhs.T → ZO) (kq : ZK) (x : Jhs.T) : ZO := J84 F none (fun s s4 s7 s8 => nx ((s, ((), (s4, (s7, (s8, ()))))), (((), ((), ())), ()))) (fun y0 y1 y2 y3 => kq .ret (Jhs.inst ((y0, ((), (y1, (y2, (y3, ()))))), (((), ((), ())), ())))) (fun y0 y1 y2 y3 => kq (.exit 0) (Jhs.inst ((y0, ((), (y1, (y2, (y3, ()))))), (((), ((), ())), ())))) x.1.1 x.1.2.2.1 x.1.2.2.2.1 x.1.2.2.2.2.1
def K8x (F m : Nat) (x : Jhs.T) (kq : ZK) : ZO := Jqo F none (fun y0 y1 y2 y3 => kq .ret (Jhs.inst ((y0, ((), (y1, (y2, (y3, ()))))), (((), ((), ())), ())))) (fun y0 y1 y2 y3 => kq (.exit 0) (Jhs.inst ((y0, ((), (y1, (y2, (y3, ()))))), (((), ((), ())), ())))) m x.1.1 x.1.2.2.1 x.1.2.2.2.1 x.1.2.2.2.2.1
def K5v (F : Nat) : List (LoE Unit) := [⟨151, 2, LO.of Jhs (K8x F F)⟩]
def Jxv (F : Nat) : Jbu Unit := { toBook := Kd7, lo := Jcf (K5v F), need := Jaw [(151, 1)] }
theorem Koz (F : Nat) : Jbn prog (Jxv F) F 151 0 2 Jhs (K8w F) := fun d x KQ => by kernel_rfl
theorem K8y (F : Nat) : Jhk prog (Jxv F) F := Ja0 (l := K5v F) rfl (fa (Jal 0 (by kernel_rfl) (by kernel_rfl) (Jah (Koz F) (fun _ _ => rfl) (fun _ _ _ _ => rfl))) fz)
theorem Qgd (F : Nat) (s : ZB) (kend : List BV → ZO) : Jam prog (Jxv F) F 20 131 [.d (.slc (.int .u8)) s, .f 132] [.d .bool] kend = Qmc F s none (fun y0 => kend [BV.d .bool y0]) := by kernel_rfl
theorem Jyq  : Jad prog 131 (Orc.of [.d (.slc (.int .u8)), .f] true 0 fun x => ((Nat.beq x.2.1 132) && K60 x.1 x.2.1, [.d .bool (K61 x.1 x.2.1)])) := Jem (B0 := Kd7) bkN bkG Jao bkT (Jac fz) (by kernel_rfl) (fun x h => by
 obtain ⟨x0, x1, _⟩ := x
 simp only [Bool.and_eq_true] at h
 obtain ⟨e, h⟩ := h
 have e := Nat.eq_of_beq_eq_true e
 subst e
 obtain ⟨F, hF⟩ := Kzp x0 h
 exact ⟨F, 20, Jxv F, rfl, K8y F, fun kend => (Qgd F x0 kend).trans (hF none (fun y0 => kend [BV.d .bool y0]))⟩)
def Qge  : Orc := Orc.of [.d (.slc (.int .u8)), .f] true 0 fun x => ((Nat.beq x.2.1 132) && K60 x.1 x.2.1, [.d .bool (K61 x.1 x.2.1)])
theorem Kvo  : Jad prog 131 Qge := Jkt Jyq.1 (fun x h => by
 obtain ⟨x0, x1, _⟩ := x
 simp only [Bool.and_eq_true] at h
 obtain ⟨e, _⟩ := h
 rcases e with e
 ·have e := Nat.eq_of_beq_eq_true e
  subst e
  exact ⟨_, Jyq, rfl⟩)
@[reducible] def J5j  : List PM := [.d (.pair (.int .i64) (.pair (.int .i64) (.pair (.int .i64) .unit))), .d (.slc (.int .u8))]
def Kd8  : Orc := Orc.of J5j false 0 fun x => (J1n x.1 x.2.1, [.d (.pair (.int .i64) (.pair (.int .i64) (.pair (.int .i64) .unit))) (Jqb x.1 x.2.1), .d (.slc (.pair (.int .i64) (.pair (.int .i64) (.pair (.slc (.arr 16 (.int .u8))) .unit)))) (Jqc x.1 x.2.1), .d (.int .i64) (Jqd x.1 x.2.1)])
@[reducible] def Jhf  : Tpl := { cur := ⟨[(0, .hnd .yield 0), (0, .ptr 5 []), (0, .ptr 6 []), (1, .var (.int .i64))], 26⟩, stk := [⟨[(0, .hnd .yield 0)], 0⟩, ⟨[(2, .ptr 1 [])], 13⟩, ⟨[(0, .hnd .yield 2)], 0⟩, ⟨[(1, .var (.slc (.int .u8))), (0, .ptr 7 []), (1, .ptr 8 []), (0, .nils), (0, .var (.int .i64)), (1, .var (.int .i64)), (0, .nils), (0, .ptr 3 [])], 66⟩, ⟨[], 0⟩], heap := [.lp 108 2 ⟨[(2, .ptr 1 [])], 13⟩ .ready, .box (.hnd .yield 2), .lp 26 13 ⟨[(10, .ptr 3 [])], 66⟩ .ready, .box (.row 4), .row 93 (.arr 16 (.int .u8)) false, .box (.var (.slc (.int .u8))), .box (.var (.int .i64)), .box (.var (.pair (.int .i64) (.pair (.int .i64) (.pair (.int .i64) .unit)))), .box (.var (.pair (.int .i64) (.pair (.int .i64) (.pair (.int .i64) .unit))))] }
def Kvp  : List (FuncId × Orc) := [(24, J5i), (58, Kj5), (60, Kj9), (61, Kvn), (62, K5u)]
def J3i  : Book := { Γ := gam, orc := Jbc Kvp, hint := Jav [(26, { keep := some [], keeps := [], own := [], dat := [], stk := [], rgb := [(5012, [(10, 0, 36)])] }), (142, { keep := some [0, 1, 2, 4], keeps := [(1, [0, 1, 2, 4])], own := [], dat := [], stk := [[0], [2, 3, 4, 7, 15], [0], [1, 2, 4, 5, 6, 8, 9, 10, 11, 40, 45, 49, 63, 64, 67, 73]] })] }
def Kvq (F : Nat) (nx : Jhf.T → ZO) (kq : ZK) (x : Jhf.T) : ZO := Jxc F none (fun i payload s6 n parts s1 s2 l s4 => nx (((), ((), ((), (i, ())))), ((((), ()), (((), ()), (((), ()), ((payload, ((), ((), ((), (s6, (n, ((), ((), ())))))))), ((), ()))))), (((), ()), ((), (((), ()), ((), (parts, (s1, (s2, (l, (s4, ())))))))))))) (fun y0 y1 y2 y3 y4 y5 y6 y7 y8 => kq (.exit 0) (Jhf.inst (((), ((), ((), (y0, ())))), ((((), ()), (((), ()), (((), ()), ((y1, ((), ((), ((), (y2, (y3, ((), ((), ())))))))), ((), ()))))), (((), ()), ((), (((), ()), ((), (y4, (y5, (y6, (y7, (y8, ()))))))))))))) x.1.2.2.2.1 x.2.1.2.2.2.1.1 x.2.1.2.2.2.1.2.2.2.2.1 x.2.1.2.2.2.1.2.2.2.2.2.1 x.2.2.2.2.2.2.1 x.2.2.2.2.2.2.2.1 x.2.2.2.2.2.2.2.2.1 x.2.2.2.2.2.2.2.2.2.1 x.2.2.2.2.2.2.2.2.2.2.1
def Kvr (F m : Nat) (x : Jhf.T) (kq : ZK) : ZO := Jki F none (fun y0 y1 y2 y3 y4 y5 y6 y7 y8 => kq (.exit 0) (Jhf.inst (((), ((), ((), (y0, ())))), ((((), ()), (((), ()), (((), ()), ((y1, ((), ((), ((), (y2, (y3, ((), ((), ())))))))), ((), ()))))), (((), ()), ((), (((), ()), ((), (y4, (y5, (y6, (y7, (y8, ()))))))))))))) m x.1.2.2.2.1 x.2.1.2.2.2.1.1 x.2.1.2.2.2.1.2.2.2.2.1 x.2.1.2.2.2.1.2.2.2.2.2.1 x.2.2.2.2.2.2.1 x.2.2.2.2.2.2.2.1 x.2.2.2.2.2.2.2.2.1 x.2.2.2.2.2.2.2.2.2.1 x.2.2.2.2.2.2.2.2.2.2.1
def Kkb (F : Nat) : List (LoE Unit) := [⟨142, 1, LO.of Jhf (Kvr F F)⟩]
def Jvn (F : Nat) : Jbu Unit := { toBook := J3i, lo := Jcf (Kkb F), need := Jaw [(142, 2)] }
theorem Kd9 (F : Nat) : Jbn prog (Jvn F) F 142 0 1 Jhf (Kvq F) := fun d x KQ => by kernel_rfl
theorem Kvs (F : Nat) : Jhk prog (Jvn F) F := Ja0 (l := Kkb F) rfl (fa (Jal 0 (by kernel_rfl) (by kernel_rfl) (Jah (Kd9 F) (fun _ _ => rfl) (fun _ _ _ _ => rfl))) fz)
theorem K2n (F : Nat) (x : Jaz J5j) (kend : List BV → ZO) : Jam prog (Jvn F) F 20 26 (Jae J5j x) [.d (.pair (.int .i64) (.pair (.int .i64) (.pair (.int .i64) .unit))), .d (.slc (.pair (.int .i64) (.pair (.int .i64) (.pair (.slc (.arr 16 (.int .u8))) .unit)))), .d (.int .i64)] kend = Kyq F x.1 x.2.1 none (fun y0 y1 y2 => kend [BV.d (.pair (.int .i64) (.pair (.int .i64) (.pair (.int .i64) .unit))) y0, BV.d (.slc (.pair (.int .i64) (.pair (.int .i64) (.pair (.slc (.arr 16 (.int .u8))) .unit)))) y1, BV.d (.int .i64) y2]) := by kernel_rfl
theorem J74  : Jad prog 26 Kd8 := Jap (B0 := J3i) bkN bkG Jao bkT K2n (Jac (fa Jvl (fa Kdz (fa Kd6 (fa Kgu (fa Kox fz)))))) (by kernel_rfl) (fun _ => rfl) Kvs (fun x h => (Kne x.1 x.2.1 h).elim fun F hF => ⟨F, fun kend => hF none _⟩)
@[reducible] def Ko0  : List PM := [.d (.slc (.arr 16 (.int .u8))), .d (.int .i64)]
def Kvt  : Orc := Orc.of Ko0 false 0 fun x => (Juh x.1 x.2.1, [.d (.slc (.slc (.int .u8))) (J1p x.1 x.2.1), .d (.int .i64) (Jgk x.1 x.2.1)])
@[reducible] def Jht  : Tpl := { cur := ⟨[(0, .ptr 0 []), (0, .var (.int .i64)), (2, .ptr 1 []), (0, .ptr 3 []), (0, .ptr 4 []), (0, .var (.int .i64))], 63⟩, stk := [⟨[(0, .ptr 1 []), (0, .ptr 3 [])], 0⟩, ⟨[(0, .var (.slc (.arr 16 (.int .u8)))), (0, .var (.int .i64)), (2, .nils), (0, .var (.int .i64)), (0, .row 5), (0, .ptr 0 []), (0, .var (.int .i64))], 36⟩, ⟨[], 0⟩], heap := [.box (.var (.pair (.slc (.arr 16 (.int .u8))) .unit)), .box (.row 2), .row 5 (.int .u8) false, .box (.var .bool), .box (.var (.arr 16 (.int .u8))), .row 24 (.slc (.int .u8)) false] }
@[reducible] def Jq5  : Tpl := { cur := ⟨[(0, .var (.slc (.arr 16 (.int .u8)))), (0, .var (.int .i64)), (2, .nils), (0, .var (.int .i64)), (0, .row 0), (0, .ptr 1 [])], 37⟩, stk := [⟨[], 0⟩], heap := [.row 24 (.slc (.int .u8)) false, .box (.var (.pair (.slc (.arr 16 (.int .u8))) .unit))] }
@[reducible] def Kea  : Tpl := { cur := ⟨[(0, .var (.slc (.arr 16 (.int .u8)))), (0, .var (.int .i64)), (2, .row 0), (0, .var (.int .i64)), (0, .row 0), (0, .ptr 1 [])], 37⟩, stk := [⟨[], 0⟩], heap := [.row 24 (.slc (.int .u8)) false, .box (.var (.pair (.slc (.arr 16 (.int .u8))) .unit))] }
def K8z  : List (FuncId × Orc) := [(107, Jxu), (110, Kos), (129, Kj7), (131, Qge)]
def Keb  : Book := { Γ := gam, orc := Jbc K8z, hint := Jav [(41, { keep := some [0, 1, 4, 5, 6, 7], keeps := [(5, [0, 1, 4, 5, 6, 7])], own := [(6, 51)], dat := [], stk := [] }), (88, { keep := some [0, 1, 4, 5, 6, 7], keeps := [(4, [0, 1, 4, 5, 6, 7])], own := [], dat := [], stk := [[0, 1, 2, 3, 4, 5, 6, 7], [0, 1, 4, 5, 6, 7, 8]], rgb := [(5002, [(4, 0, 24)])] })], rcv := rcvs }
def K80 (F : Nat) (nx : Jht.T → ZO) (kq : ZK) (x : Jht.T) : ZO := J85 F none (fun number count l first s5 left r payload ok p out => nx (((), (number, ((), ((), ((), (count, ())))))), ((((), ((), ())), ((l, (first, ((), (s5, ((), ((), (left, ()))))))), ((), ()))), (r, ((), (payload, (ok, (p, (out, ()))))))))) (fun y0 y1 y2 y3 y4 y5 y6 y7 y8 y9 y10 => kq (.panic 186) (Jht.inst (((), (y0, ((), ((), ((), (y1, ())))))), ((((), ((), ())), ((y2, (y3, ((), (y4, ((), ((), (y5, ()))))))), ((), ()))), (y6, ((), (y7, (y8, (y9, (y10, ())))))))))) (fun y0 y1 y2 y3 y4 y5 y6 y7 y8 y9 y10 => kq (.exit 0) (Jht.inst (((), (y0, ((), ((), ((), (y1, ())))))), ((((), ((), ())), ((y2, (y3, ((), (y4, ((), ((), (y5, ()))))))), ((), ()))), (y6, ((), (y7, (y8, (y9, (y10, ())))))))))) x.1.2.1 x.1.2.2.2.2.2.1 x.2.1.2.1.1 x.2.1.2.1.2.1 x.2.1.2.1.2.2.2.1 x.2.1.2.1.2.2.2.2.2.2.1 x.2.2.1 x.2.2.2.2.1 x.2.2.2.2.2.1 x.2.2.2.2.2.2.1 x.2.2.2.2.2.2.2.1
def K81 (F m : Nat) (x : Jht.T) (kq : ZK) : ZO := Jqp F none (fun y0 y1 y2 y3 y4 y5 y6 y7 y8 y9 y10 => kq (.panic 186) (Jht.inst (((), (y0, ((), ((), ((), (y1, ())))))), ((((), ((), ())), ((y2, (y3, ((), (y4, ((), ((), (y5, ()))))))), ((), ()))), (y6, ((), (y7, (y8, (y9, (y10, ())))))))))) (fun y0 y1 y2 y3 y4 y5 y6 y7 y8 y9 y10 => kq (.exit 0) (Jht.inst (((), (y0, ((), ((), ((), (y1, ())))))), ((((), ((), ())), ((y2, (y3, ((), (y4, ((), ((), (y5, ()))))))), ((), ()))), (y6, ((), (y7, (y8, (y9, (y10, ())))))))))) m x.1.2.1 x.1.2.2.2.2.2.1 x.2.1.2.1.1 x.2.1.2.1.2.1 x.2.1.2.1.2.2.2.1 x.2.1.2.1.2.2.2.2.2.2.1 x.2.2.1 x.2.2.2.2.1 x.2.2.2.2.2.1 x.2.2.2.2.2.2.1 x.2.2.2.2.2.2.2.1
def K82 (F : Nat) (nx : Jq5.T → ZO) (kq : ZK) (x : Jq5.T) : ZO := J86 F none (fun l first s5 out r => nx ((l, (first, ((), (s5, ((), ((), ())))))), (((), ()), (out, (r, ()))))) (fun y0 y1 y2 y3 y4 => kq .ret (Kea.inst ((y0, (y1, ((), (y2, ((), ((), ())))))), (((), ()), (y3, (y4, ())))))) x.1.1 x.1.2.1 x.1.2.2.2.1 x.2.2.1 x.2.2.2.1
def K83 (F m : Nat) (x : Jq5.T) (kq : ZK) : ZO := Jqq F none (fun y0 y1 y2 y3 y4 => kq .ret (Kea.inst ((y0, (y1, ((), (y2, ((), ((), ())))))), (((), ()), (y3, (y4, ())))))) m x.1.1 x.1.2.1 x.1.2.2.2.1 x.2.2.1 x.2.2.2.1
def K5w (F : Nat) : List (LoE Unit) := [⟨88, 4, LO.of Jht (K81 F F)⟩,
 ⟨41, 5, LO.of Jq5 (K83 F F)⟩]
def Jxw (F : Nat) : Jbu Unit := { toBook := Keb, lo := Jcf (K5w F), need := Jaw [(41, 3), (88, 2)] }
theorem Ko1 (F : Nat) : Jbn prog (Jxw F) F 88 0 4 Jht (K80 F) := fun d x KQ => by kernel_rfl
theorem Ko2 (F : Nat) : Jbn prog (Jxw F) F 41 0 5 Jq5 (K82 F) := fun d x KQ => by kernel_rfl
theorem K84 (F : Nat) : Jhk prog (Jxw F) F := Ja0 (l := K5w F) rfl (fa (Jal 0 (by kernel_rfl) (by kernel_rfl) (Jah (Ko1 F) (fun _ _ => rfl) (fun _ _ _ _ => rfl))) (fa (Jal 0 (by kernel_rfl) (by kernel_rfl) (Jah (Ko2 F) (fun _ _ => rfl) (fun _ _ _ _ => rfl))) fz))
theorem Qgf (F : Nat) (x : Jaz Ko0) (kend : List BV → ZO) : Jam prog (Jxw F) F 20 41 (Jae Ko0 x) [.d (.slc (.slc (.int .u8))), .d (.int .i64)] kend = Qmd F x.1 x.2.1 none (fun y0 y1 => kend [BV.d (.slc (.slc (.int .u8))) y0, BV.d (.int .i64) y1]) := by kernel_rfl
theorem Kgv  : Jad prog 41 Kvt := Jap (B0 := Keb) bkN bkG Jao bkT Qgf (Jac (fa Joj (fa J3h (fa Kd3 (fa Kvo fz))))) (by kernel_rfl) (fun _ => rfl) K84 (fun x h => (Kzs x.1 x.2.1 h).elim fun F hF => ⟨F, fun kend => hF none _⟩) (hR := Qns)
@[reducible] def J9n  : List PM := [.d (.pair (.slc (.arr 16 (.int .u8))) (.pair (.slc (.pair (.int .i64) (.pair (.arr 16 (.int .u8)) .unit))) .unit))]
def Kvu  : Orc := Orc.of J9n false 0 fun x => (Jj9 x.1, [.d (.pair (.int .i64) (.pair (.int .i64) (.pair (.int .i64) .unit))) (Jry x.1), .d (.slc (.slc (.int .u8))) (Jo2 x.1), .d (.int .i64) (Jo3 x.1)])
def Kkc  : List (FuncId × Orc) := [(39, Ku2), (40, Kvi), (41, Kvt)]
theorem Qgg (F : Nat) (x : Jaz J9n) (kend : List BV → ZO) : Jam prog (bkZ Kkc) F 20 19 (Jae J9n x) [.d (.pair (.int .i64) (.pair (.int .i64) (.pair (.int .i64) .unit))), .d (.slc (.slc (.int .u8))), .d (.int .i64)] kend = Qme F x.1 none (fun y0 y1 y2 => kend [BV.d (.pair (.int .i64) (.pair (.int .i64) (.pair (.int .i64) .unit))) y0, BV.d (.slc (.slc (.int .u8))) y1, BV.d (.int .i64) y2]) := by kernel_rfl
theorem Kgw  : Jad prog 19 Kvu := Jap (B0 := bkY Kkc) bkN bkG Jao bkT Qgg (Jac (fa Kgl (fa Kgs (fa Kgv fz)))) (by kernel_rfl) (fun _ => rfl) (bkO _) (fun x h => (Kzw x.1 h).elim fun F hF => ⟨F, fun kend => hF none _⟩)
@[reducible] def Js1  : List PM := [.d (.int .i64)]
def Jpw  : Orc := Orc.of Js1 true 0 fun x => (Jgu x.1, [.d (.int .i64) (Jc8 x.1)])
def Jvo  : List (FuncId × Orc) := []
theorem Kgx (F : Nat) (x : Jaz Js1) (kend : List BV → ZO) : Jam prog (bkZ Jvo) F 20 114 (Jae Js1 x) [.d (.int .i64)] kend = J4k F x.1 none (fun y0 => kend [BV.d (.int .i64) y0]) := by kernel_rfl
theorem Jon  : Jad prog 114 Jpw := Jap (B0 := bkY Jvo) bkN bkG Jao bkT Kgx (Jac fz) (by kernel_rfl) (fun _ => rfl) (bkO _) (fun x h => (J7n x.1 h).elim fun F hF => ⟨F, fun kend => hF none _⟩)
@[reducible] def J5k  : List PM := []
def Kec  : Orc := Orc.of J5k true 0 fun x => (J1h, [.d (.arr 16 (.int .u8)) (J1i)])
@[reducible] def Jhg  : Tpl := { cur := ⟨[(0, .ptr 0 []), (0, .ptr 1 []), (0, .var .str), (0, .var (.int .i64))], 14⟩, stk := [⟨[], 0⟩], heap := [.box (.var (.arr 16 (.int .u8))), .box (.var (.arr 16 (.int .u8)))] }
def Kvv  : List (FuncId × Orc) := []
def J3j  : Book := { Γ := gam, orc := Jbc Kvv, hint := Jav [(78, { keep := some [0, 1, 2, 3], keeps := [(4, [0, 1, 2, 3])], own := [], dat := [], stk := [] })] }
def Kvw (F : Nat) (nx : Jhg.T → ZO) (kq : ZK) (x : Jhg.T) : ZO := Kip F none (fun text i s0 p => nx (((), ((), (text, (i, ())))), (((), ()), (s0, (p, ()))))) (fun y0 y1 y2 y3 => kq (.exit 0) (Jhg.inst (((), ((), (y0, (y1, ())))), (((), ()), (y2, (y3, ())))))) x.1.2.2.1 x.1.2.2.2.1 x.2.2.1 x.2.2.2.1
def Kvx (F m : Nat) (x : Jhg.T) (kq : ZK) : ZO := Jzo F none (fun y0 y1 y2 y3 => kq (.exit 0) (Jhg.inst (((), ((), (y0, (y1, ())))), (((), ()), (y2, (y3, ())))))) m x.1.2.2.1 x.1.2.2.2.1 x.2.2.1 x.2.2.2.1
def Kkd (F : Nat) : List (LoE Unit) := [⟨78, 4, LO.of Jhg (Kvx F F)⟩]
def Jvp (F : Nat) : Jbu Unit := { toBook := J3j, lo := Jcf (Kkd F), need := Jaw [] }
theorem Ked (F : Nat) : Jbn prog (Jvp F) F 78 0 4 Jhg (Kvw F) := fun d x KQ => by kernel_rfl
theorem Kvy (F : Nat) : Jhk prog (Jvp F) F := Ja0 (l := Kkd F) rfl (fa (Jal 0 (by kernel_rfl) (by kernel_rfl) (Jah (Ked F) (fun _ _ => rfl) (fun _ _ _ _ => rfl))) fz)
theorem K2o (F : Nat) (x : Jaz J5k) (kend : List BV → ZO) : Jam prog (Jvp F) F 20 78 (Jae J5k x) [.d (.arr 16 (.int .u8))] kend = Qce F  none (fun y0 => kend [BV.d (.arr 16 (.int .u8)) y0]) := by kernel_rfl
theorem J75  : Jad prog 78 Kec := Jap (B0 := J3j) bkN bkG Jao bkT K2o (Jac fz) (by kernel_rfl) (fun _ => rfl) Kvy (fun x h => (Knc  h).elim fun F hF => ⟨F, fun kend => hF none _⟩)
@[reducible] def Ko3  : List PM := [.d (.slc (.int .u8))]
def Kvz  : Orc := Orc.of Ko3 false 0 fun x => (Ka2 x.1, [.d (.slc (.arr 16 (.int .u8))) (Jzf x.1)])
@[reducible] def Jko  : Tpl := { cur := ⟨[(0, .var (.slc (.int .u8))), (2, .row 0), (0, .var (.int .i64))], 34⟩, stk := [⟨[], 0⟩], heap := [.row 93 (.arr 16 (.int .u8)) false] }
@[reducible] def Jkp  : Tpl := { cur := ⟨[(0, .var (.slc (.int .u8))), (2, .row 0), (1, .var (.int .i64))], 33⟩, stk := [⟨[], 0⟩], heap := [.row 93 (.arr 16 (.int .u8)) false] }
def K85  : List (FuncId × Orc) := [(114, Jpw)]
def Kee  : Book := { Γ := gam, orc := Jbc K85, hint := Jav [(67, { keep := some [0, 3, 4, 5], keeps := [(3, [0, 3, 4]), (7, [0, 3, 5])], own := [], dat := [], stk := [] })] }
def K86 (F : Nat) (nx : Jko.T → ZO) (kq : ZK) (x : Jko.T) : ZO := J87 F none (fun payload i out => nx ((payload, ((), (i, ()))), (((), ()), (out, ())))) (fun y0 y1 y2 => kq (.exit 0) (Jko.inst ((y0, ((), (y1, ()))), (((), ()), (y2, ()))))) x.1.1 x.1.2.2.1 x.2.2.1
def K87 (F m : Nat) (x : Jko.T) (kq : ZK) : ZO := Jqr F none (fun y0 y1 y2 => kq (.exit 0) (Jko.inst ((y0, ((), (y1, ()))), (((), ()), (y2, ()))))) m x.1.1 x.1.2.2.1 x.2.2.1
def K88 (F : Nat) (nx : Jkp.T → ZO) (kq : ZK) (x : Jkp.T) : ZO := J88 F none (fun payload i out => nx ((payload, ((), (i, ()))), (((), ()), (out, ())))) (fun y0 y1 y2 => kq (.exit 2) (Jkp.inst ((y0, ((), (y1, ()))), (((), ()), (y2, ()))))) x.1.1 x.1.2.2.1 x.2.2.1
def K89 (F m : Nat) (x : Jkp.T) (kq : ZK) : ZO := Jqs F none (fun y0 y1 y2 => kq (.exit 2) (Jkp.inst ((y0, ((), (y1, ()))), (((), ()), (y2, ()))))) m x.1.1 x.1.2.2.1 x.2.2.1
def K5x (F : Nat) : List (LoE Unit) := [⟨67, 3, LO.of Jko (K87 F F)⟩,
 ⟨67, 7, LO.of Jkp (K89 F F)⟩]
def Jxx (F : Nat) : Jbu Unit := { toBook := Kee, lo := Jcf (K5x F), need := Jaw [] }
theorem Ko4 (F : Nat) : Jbn prog (Jxx F) F 67 0 3 Jko (K86 F) := fun d x KQ => by kernel_rfl
theorem Ko5 (F : Nat) : Jbn prog (Jxx F) F 67 1 7 Jkp (K88 F) := fun d x KQ => by kernel_rfl
theorem K9a (F : Nat) : Jhk prog (Jxx F) F := Ja0 (l := K5x F) rfl (fa (Jal 0 (by kernel_rfl) (by kernel_rfl) (Jah (Ko4 F) (fun _ _ => rfl) (fun _ _ _ _ => rfl))) (fa (Jal 1 (by kernel_rfl) (by kernel_rfl) (Jah (Ko5 F) (fun _ _ => rfl) (fun _ _ _ _ => rfl))) fz))
theorem Qgh (F : Nat) (x : Jaz Ko3) (kend : List BV → ZO) : Jam prog (Jxx F) F 20 67 (Jae Ko3 x) [.d (.slc (.arr 16 (.int .u8)))] kend = Qmf F x.1 none (fun y0 => kend [BV.d (.slc (.arr 16 (.int .u8))) y0]) := by kernel_rfl
theorem Kgy  : Jad prog 67 Kvz := Jap (B0 := Kee) bkN bkG Jao bkT Qgh (Jac (fa Jon fz)) (by kernel_rfl) (fun _ => rfl) K9a (fun x h => (Kzt x.1 h).elim fun F hF => ⟨F, fun kend => hF none _⟩)
@[reducible] def K2p  : List PM := [.d (.arr 16 (.int .u8)), .d (.int .i64), .d (.int .i64), .d (.int .i64)]
def K5y  : Orc := Orc.of K2p true 0 fun x => (Jue x.1 x.2.1 x.2.2.1 x.2.2.2.1, [.d (.arr 16 (.int .u8)) (Jo1 x.1 x.2.1 x.2.2.1 x.2.2.2.1)])
@[reducible] def Joo  : Tpl := { cur := ⟨[(1, .var (.int .i64)), (1, .var (.int .i64)), (0, .ptr 0 []), (3, .ptr 1 []), (0, .var (.int .i64))], 16⟩, stk := [⟨[], 0⟩], heap := [.box (.var (.arr 16 (.int .u8))), .box (.var (.arr 16 (.int .u8)))] }
def Qgi  : List (FuncId × Orc) := []
def Kke  : Book := { Γ := gam, orc := Jbc Qgi, hint := Jav [(115, { keep := some [1, 3, 4, 8, 9], keeps := [(2, [1, 3, 4, 8, 9])], own := [], dat := [], stk := [] })] }
def Qgj (F : Nat) (nx : Joo.T → ZO) (kq : ZK) (x : Joo.T) : ZO := Kmf F none (fun at_ n i p s8 => nx ((at_, (n, ((), ((), (i, ()))))), (((), ()), (p, (s8, ()))))) (fun y0 y1 y2 y3 y4 => kq (.exit 0) (Joo.inst ((y0, (y1, ((), ((), (y2, ()))))), (((), ()), (y3, (y4, ())))))) x.1.1 x.1.2.1 x.1.2.2.2.2.1 x.2.2.1 x.2.2.2.1
def Qgk (F m : Nat) (x : Joo.T) (kq : ZK) : ZO := Jxd F none (fun y0 y1 y2 y3 y4 => kq (.exit 0) (Joo.inst ((y0, (y1, ((), ((), (y2, ()))))), (((), ()), (y3, (y4, ())))))) m x.1.1 x.1.2.1 x.1.2.2.2.2.1 x.2.2.1 x.2.2.2.1
def Qgl (F : Nat) : List (LoE Unit) := [⟨115, 2, LO.of Joo (Qgk F F)⟩]
def Kef (F : Nat) : Jbu Unit := { toBook := Kke, lo := Jcf (Qgl F), need := Jaw [] }
theorem Kv0 (F : Nat) : Jbn prog (Kef F) F 115 0 2 Joo (Qgj F) := fun d x KQ => by kernel_rfl
theorem Qgm (F : Nat) : Jhk prog (Kef F) F := Ja0 (l := Qgl F) rfl (fa (Jal 0 (by kernel_rfl) (by kernel_rfl) (Jah (Kv0 F) (fun _ _ => rfl) (fun _ _ _ _ => rfl))) fz)
theorem Qjw (F : Nat) (x : Jaz K2p) (kend : List BV → ZO) : Jam prog (Kef F) F 20 115 (Jae K2p x) [.d (.arr 16 (.int .u8))] kend = qPut F x.1 x.2.1 x.2.2.1 x.2.2.2.1 none (fun y0 => kend [BV.d (.arr 16 (.int .u8)) y0]) := by kernel_rfl
theorem Ko6  : Jad prog 115 K5y := Jap (B0 := Kke) bkN bkG Jao bkT Qjw (Jac fz) (by kernel_rfl) (fun _ => rfl) Qgm (fun x h => (K7s x.1 x.2.1 x.2.2.1 x.2.2.2.1 h).elim fun F hF => ⟨F, fun kend => hF none _⟩)
@[reducible] def K2q  : List PM := [.d (.arr 16 (.int .u8)), .d (.int .i64), .d (.int .i64)]
def K5z  : Orc := Orc.of K2q true 0 fun x => (Ka1 x.1 x.2.1 x.2.2.1, [.d (.int .i64) (J1l x.1 x.2.1 x.2.2.1)])
@[reducible] def Jop  : Tpl := { cur := ⟨[(1, .var (.int .i64)), (0, .var (.int .i64)), (0, .ptr 0 []), (3, .var (.int .i64)), (0, .var (.int .i64))], 15⟩, stk := [⟨[], 0⟩], heap := [.box (.var (.arr 16 (.int .u8)))] }
def Qgn  : List (FuncId × Orc) := []
def Kkf  : Book := { Γ := gam, orc := Jbc Qgn, hint := Jav [(150, { keep := some [1, 2, 3, 7, 8], keeps := [(3, [1, 2, 3, 7, 8])], own := [], dat := [], stk := [] })] }
def Qgo (F : Nat) (nx : Jop.T → ZO) (kq : ZK) (x : Jop.T) : ZO := Kmg F none (fun at_ size n i p => nx ((at_, (size, ((), (n, (i, ()))))), (((), ()), (p, ())))) (fun y0 y1 y2 y3 y4 => kq (.exit 0) (Jop.inst ((y0, (y1, ((), (y2, (y3, ()))))), (((), ()), (y4, ()))))) x.1.1 x.1.2.1 x.1.2.2.2.1 x.1.2.2.2.2.1 x.2.2.1
def Qgp (F m : Nat) (x : Jop.T) (kq : ZK) : ZO := Jxe F none (fun y0 y1 y2 y3 y4 => kq (.exit 0) (Jop.inst ((y0, (y1, ((), (y2, (y3, ()))))), (((), ()), (y4, ()))))) m x.1.1 x.1.2.1 x.1.2.2.2.1 x.1.2.2.2.2.1 x.2.2.1
def Qgq (F : Nat) : List (LoE Unit) := [⟨150, 3, LO.of Jop (Qgp F F)⟩]
def Keg (F : Nat) : Jbu Unit := { toBook := Kkf, lo := Jcf (Qgq F), need := Jaw [] }
theorem Kv1 (F : Nat) : Jbn prog (Keg F) F 150 0 3 Jop (Qgo F) := fun d x KQ => by kernel_rfl
theorem Qgr (F : Nat) : Jhk prog (Keg F) F := Ja0 (l := Qgq F) rfl (fa (Jal 0 (by kernel_rfl) (by kernel_rfl) (Jah (Kv1 F) (fun _ _ => rfl) (fun _ _ _ _ => rfl))) fz)
theorem Qjx (F : Nat) (x : Jaz K2q) (kend : List BV → ZO) : Jam prog (Keg F) F 20 150 (Jae K2q x) [.d (.int .i64)] kend = qGet F x.1 x.2.1 x.2.2.1 none (fun y0 => kend [BV.d (.int .i64) y0]) := by kernel_rfl
theorem Ko7  : Jad prog 150 K5z := Jap (B0 := Kkf) bkN bkG Jao bkT Qjx (Jac fz) (by kernel_rfl) (fun _ => rfl) Qgr (fun x h => (K7q x.1 x.2.1 x.2.2.1 h).elim fun F hF => ⟨F, fun kend => hF none _⟩)
@[reducible] def J5l  : List PM := [.d (.slc (.int .u8)), .d (.int .i64)]
def Keh  : Orc := Orc.of J5l true 0 fun x => (Juf x.1 x.2.1, [.d (.arr 16 (.int .u8)) (Jug x.1 x.2.1)])
def J62  : List (FuncId × Orc) := [(114, Jpw), (115, K5y), (116, K5t)]
theorem K2r (F : Nat) (x : Jaz J5l) (kend : List BV → ZO) : Jam prog (bkZ J62) F 20 68 (Jae J5l x) [.d (.arr 16 (.int .u8))] kend = Kyr F x.1 x.2.1 none (fun y0 => kend [BV.d (.arr 16 (.int .u8)) y0]) := by kernel_rfl
theorem J76  : Jad prog 68 Keh := Jap (B0 := bkY J62) bkN bkG Jao bkT K2r (Jac (fa Jon (fa Ko6 (fa Kov fz)))) (by kernel_rfl) (fun _ => rfl) (bkO _) (fun x h => (Knb x.1 x.2.1 h).elim fun F hF => ⟨F, fun kend => hF none _⟩)
@[reducible] def Jvq  : List PM := [.d (.slc (.arr 16 (.int .u8))), .d (.int .i64)]
def J3k  : Orc := Orc.of Jvq false 0 fun x => (Jf2 x.1 x.2.1, [.d (.slc (.int .u8)) (Jgv x.1 x.2.1), .d (.int .i64) (Jgw x.1 x.2.1), .d .bool (Jgx x.1 x.2.1)])
@[reducible] def Je4  : Tpl := { cur := ⟨[(0, .var (.slc (.arr 16 (.int .u8)))), (0, .var (.int .i64)), (5, .var (.int .i64))], 80⟩, stk := [⟨[], 0⟩], heap := [] }
@[reducible] def Je5  : Tpl := { cur := ⟨[(0, .var (.slc (.arr 16 (.int .u8)))), (0, .var (.int .i64)), (5, .var (.int .i64)), (0, .var (.int .i64)), (0, .row 0), (0, .var (.int .i64))], 77⟩, stk := [⟨[], 0⟩], heap := [.row 5 (.int .u8) false] }
def Kgz  : List (FuncId × Orc) := [(31, Jyp), (67, Kvz), (68, Keh), (150, K5z)]
def Jvr  : Book := { Γ := gam, orc := Jbc Kgz, hint := Jav [(124, { keep := some [0, 1, 7, 8, 9, 10], keeps := [(2, [0, 1, 7]), (11, [0, 1, 7, 8, 9, 10])], own := [(9, 24)], dat := [], stk := [] })] }
def Kg0 (F : Nat) (nx : Je4.T → ZO) (kq : ZK) (x : Je4.T) : ZO := Jpf F none (fun l number k => nx ((l, (number, (k, ()))), (((), ()), ()))) (fun y0 y1 y2 => kq (.exit 0) (Je4.inst ((y0, (y1, (y2, ()))), (((), ()), ())))) x.1.1 x.1.2.1 x.1.2.2.1
def Kg1 (F m : Nat) (x : Je4.T) (kq : ZK) : ZO := Jhq F none (fun y0 y1 y2 => kq (.exit 0) (Je4.inst ((y0, (y1, (y2, ()))), (((), ()), ())))) m x.1.1 x.1.2.1 x.1.2.2.1
def Kg2 (F : Nat) (nx : Je5.T → ZO) (kq : ZK) (x : Je5.T) : ZO := Jpg F none (fun l number k n i payload => nx ((l, (number, (k, (n, ((), (i, ())))))), (((), ()), (payload, ())))) (fun y0 y1 y2 y3 y4 y5 => kq (.exit 2) (Je5.inst ((y0, (y1, (y2, (y3, ((), (y4, ())))))), (((), ()), (y5, ()))))) x.1.1 x.1.2.1 x.1.2.2.1 x.1.2.2.2.1 x.1.2.2.2.2.2.1 x.2.2.1
def Kg3 (F m : Nat) (x : Je5.T) (kq : ZK) : ZO := Jhr F none (fun y0 y1 y2 y3 y4 y5 => kq (.exit 2) (Je5.inst ((y0, (y1, (y2, (y3, ((), (y4, ())))))), (((), ()), (y5, ()))))) m x.1.1 x.1.2.1 x.1.2.2.1 x.1.2.2.2.1 x.1.2.2.2.2.2.1 x.2.2.1
def J63 (F : Nat) : List (LoE Unit) := [⟨124, 2, LO.of Je4 (Kg1 F F)⟩,
 ⟨124, 11, LO.of Je5 (Kg3 F F)⟩]
def Jk0 (F : Nat) : Jbu Unit := { toBook := Jvr, lo := Jcf (J63 F), need := Jaw [] }
theorem J5m (F : Nat) : Jbn prog (Jk0 F) F 124 0 2 Je4 (Kg0 F) := fun d x KQ => by kernel_rfl
theorem J5n (F : Nat) : Jbn prog (Jk0 F) F 124 1 11 Je5 (Kg2 F) := fun d x KQ => by kernel_rfl
theorem Kg4 (F : Nat) : Jhk prog (Jk0 F) F := Ja0 (l := J63 F) rfl (fa (Jal 0 (by kernel_rfl) (by kernel_rfl) (Jah (J5m F) (fun _ _ => rfl) (fun _ _ _ _ => rfl))) (fa (Jal 1 (by kernel_rfl) (by kernel_rfl) (Jah (J5n F) (fun _ _ => rfl) (fun _ _ _ _ => rfl))) fz))
theorem Ko8 (F : Nat) (x : Jaz Jvq) (kend : List BV → ZO) : Jam prog (Jk0 F) F 20 124 (Jae Jvq x) [.d (.slc (.int .u8)), .d (.int .i64), .d .bool] kend = Kbb F x.1 x.2.1 none (fun y0 y1 y2 => kend [BV.d (.slc (.int .u8)) y0, BV.d (.int .i64) y1, BV.d .bool y2]) := by kernel_rfl
theorem J3l  : Jad prog 124 J3k := Jap (B0 := Jvr) bkN bkG Jao bkT Ko8 (Jac (fa J0b (fa Kgy (fa J76 (fa Ko7 fz))))) (by kernel_rfl) (fun _ => rfl) Kg4 (fun x h => (Kbp x.1 x.2.1 h).elim fun F hF => ⟨F, fun kend => hF none _⟩)
@[reducible] def Ko9  : List PM := [.d (.slc (.arr 16 (.int .u8))), .d (.int .i64)]
def Kv2  : Orc := Orc.of Ko9 false 0 fun x => (Ka3 x.1 x.2.1, [.d (.slc (.slc (.int .u8))) (J1q x.1 x.2.1), .d (.int .i64) (J8z x.1 x.2.1)])
@[reducible] def Jkq  : Tpl := { cur := ⟨[(0, .var (.slc (.arr 16 (.int .u8)))), (0, .var (.int .i64)), (4, .row 0), (0, .var (.int .i64)), (0, .var (.slc (.int .u8))), (0, .var (.int .i64)), (0, .var .bool)], 35⟩, stk := [⟨[], 0⟩], heap := [.row 24 (.slc (.int .u8)) false] }
def K9b  : List (FuncId × Orc) := [(124, J3k)]
def Kei  : Book := { Γ := gam, orc := Jbc K9b, hint := Jav [(79, { keep := some [0, 1, 6, 7, 8, 9, 10], keeps := [(6, [0, 1, 6, 7, 8, 9, 10])], own := [(6, 51)], dat := [], stk := [] })] }
def K9c (F : Nat) (nx : Jkq.T → ZO) (kq : ZK) (x : Jkq.T) : ZO := J89 F none (fun l first n b k ok out => nx ((l, (first, ((), (n, (b, (k, (ok, ()))))))), (((), ()), (out, ())))) (fun y0 y1 y2 y3 y4 y5 y6 => kq (.exit 0) (Jkq.inst ((y0, (y1, ((), (y2, (y3, (y4, (y5, ()))))))), (((), ()), (y6, ()))))) x.1.1 x.1.2.1 x.1.2.2.2.1 x.1.2.2.2.2.1 x.1.2.2.2.2.2.1 x.1.2.2.2.2.2.2.1 x.2.2.1
def K9d (F m : Nat) (x : Jkq.T) (kq : ZK) : ZO := Jqt F none (fun y0 y1 y2 y3 y4 y5 y6 => kq (.exit 0) (Jkq.inst ((y0, (y1, ((), (y2, (y3, (y4, (y5, ()))))))), (((), ()), (y6, ()))))) m x.1.1 x.1.2.1 x.1.2.2.2.1 x.1.2.2.2.2.1 x.1.2.2.2.2.2.1 x.1.2.2.2.2.2.2.1 x.2.2.1
def K50 (F : Nat) : List (LoE Unit) := [⟨79, 6, LO.of Jkq (K9d F F)⟩]
def J5o (F : Nat) : Jbu Unit := { toBook := Kei, lo := Jcf (K50 F), need := Jaw [] }
theorem Kpa (F : Nat) : Jbn prog (J5o F) F 79 0 6 Jkq (K9c F) := fun d x KQ => by kernel_rfl
theorem K9e (F : Nat) : Jhk prog (J5o F) F := Ja0 (l := K50 F) rfl (fa (Jal 0 (by kernel_rfl) (by kernel_rfl) (Jah (Kpa F) (fun _ _ => rfl) (fun _ _ _ _ => rfl))) fz)
theorem Qgs (F : Nat) (x : Jaz Ko9) (kend : List BV → ZO) : Jam prog (J5o F) F 20 79 (Jae Ko9 x) [.d (.slc (.slc (.int .u8))), .d (.int .i64)] kend = Qmg F x.1 x.2.1 none (fun y0 y1 => kend [BV.d (.slc (.slc (.int .u8))) y0, BV.d (.int .i64) y1]) := by kernel_rfl
theorem Kg5  : Jad prog 79 Kv2 := Jap (B0 := Kei) bkN bkG Jao bkT Qgs (Jac (fa J3l fz)) (by kernel_rfl) (fun _ => rfl) K9e (fun x h => (Kzv x.1 x.2.1 h).elim fun F hF => ⟨F, fun kend => hF none _⟩)
@[reducible] def J9o  : List PM := [.d (.pair (.slc (.arr 16 (.int .u8))) (.pair (.slc (.pair (.int .i64) (.pair (.arr 16 (.int .u8)) .unit))) .unit))]
def Kv3  : Orc := Orc.of J9o false 0 fun x => (Jzj x.1, [.d (.pair (.int .i64) (.pair (.int .i64) (.pair (.int .i64) .unit))) (Jrz x.1), .d (.slc (.slc (.int .u8))) (Jr0 x.1), .d (.int .i64) (Jl8 x.1)])
def Kkg  : List (FuncId × Orc) := [(76, J5f), (77, Ku6), (78, Kec), (79, Kv2)]
theorem Qgt (F : Nat) (x : Jaz J9o) (kend : List BV → ZO) : Jam prog (bkZ Kkg) F 20 34 (Jae J9o x) [.d (.pair (.int .i64) (.pair (.int .i64) (.pair (.int .i64) .unit))), .d (.slc (.slc (.int .u8))), .d (.int .i64)] kend = Qmh F x.1 none (fun y0 y1 y2 => kend [BV.d (.pair (.int .i64) (.pair (.int .i64) (.pair (.int .i64) .unit))) y0, BV.d (.slc (.slc (.int .u8))) y1, BV.d (.int .i64) y2]) := by kernel_rfl
theorem Kg6  : Jad prog 34 Kv3 := Jap (B0 := bkY Kkg) bkN bkG Jao bkT Qgt (Jac (fa Jvj (fa Kgp (fa J75 (fa Kg5 fz))))) (by kernel_rfl) (fun _ => rfl) (bkO _) (fun x h => (Kzx x.1 h).elim fun F hF => ⟨F, fun kend => hF none _⟩)
end Go.AI
