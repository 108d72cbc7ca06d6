/- What the functions of checksum answer. -/
import Derived.Test.YtaoimnfmhdmkmaaVolS
noncomputable section
namespace Go.AI
open Go

abbrev Bys := List UInt8
/- Checksums, on numbers. -/
def sh1 (r : Nat) : Nat := if r % 2 = 1 then (r / 2) ^^^ 3988292384 else r / 2
def sh8 (r : Nat) : Nat := sh1 (sh1 (sh1 (sh1 (sh1 (sh1 (sh1 (sh1 r)))))))
def regN (r : Nat) (b : UInt8) : Nat := sh8 (r ^^^ b.toNat)
def crcG (r : Nat) (b : Bys) : Nat := b.foldl regN r
def crcN (b : Bys) : Nat := crcG 4294967295 b ^^^ 4294967295
def shifted_P (_ : UInt32) : Bool := true
def shifted_r (r : UInt32) : UInt32 := UInt32.ofNat (sh8 r.toNat)
def ctable_P : Bool := true
def ctable_r : List UInt32 := (List.range 256).map fun i => UInt32.ofNat (sh8 i)
def cUpd_P (_ : UInt32) (b : Bys) : Bool := decide (b.length ≤ 1000000000)
def cUpd_r (s : UInt32) (b : Bys) : UInt32 := UInt32.ofNat (crcG (s.toNat ^^^ 4294967295) b ^^^ 4294967295)
def cSum_P (b : Bys) : Bool := decide (b.length ≤ 1000000000)
def cSum_r (b : Bys) : UInt32 := UInt32.ofNat (crcN b)
end Go.AI
