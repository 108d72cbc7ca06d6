/- What the functions of cipher and of its reference answer. -/
import Derived.Test.YtfpconfgbkoifaaDigestS
namespace Go.AI
open Go

def rolN (x k : Nat) : Nat := (x * 2 ^ k) % 4294967296 + x / 2 ^ (32 - k)
def rolW (x : UInt32) (k : Nat) : UInt32 := UInt32.ofNat (rolN x.toNat k)
/-- A step of a quarter round. -/
def stp (w : List UInt32) (t f o k : Nat) : List UInt32 :=
  (w.set t (addW (w.getD t 0) (w.getD f 0))).set o (rolW (xorW ((w.set t (addW (w.getD t 0) (w.getD f 0))).getD o 0) ((w.set t (addW (w.getD t 0) (w.getD f 0))).getD t 0)) k)
def qrt (w : List UInt32) (a b c d : Nat) : List UInt32 := stp (stp (stp (stp w a b d 16) c d b 12) a b d 8) c d b 7
def colR (w : List UInt32) : Nat → List UInt32
  | 0 => w
  | i + 1 => qrt (colR w i) i (4 + i) (8 + i) (12 + i)
def diaR (w : List UInt32) : Nat → List UInt32
  | 0 => w
  | i + 1 => qrt (diaR w i) i (4 + (i + 1) % 4) (8 + (i + 2) % 4) (12 + (i + 3) % 4)
def mixR (w : List UInt32) : Nat → List UInt32
  | 0 => w
  | n + 1 => diaR (colR (mixR w n) 4) 4
def kwd (key : List UInt8) (i : Nat) : UInt32 := UInt32.ofNat ((key.getD (4 * i) 0).toNat + 256 * (key.getD (4 * i + 1) 0).toNat + 65536 * (key.getD (4 * i + 2) 0).toNat + 16777216 * (key.getD (4 * i + 3) 0).toNat)
def iniW (key : List UInt8) (nonce counter : Int) : List UInt32 :=
  [1634760805, 857760878, 2036477234, 1797285236, kwd key 0, kwd key 1, kwd key 2, kwd key 3, kwd key 4, kwd key 5, kwd key 6, kwd key 7, cvIW counter, 0, cvIW nonce, cvIW (nonce / 4294967296)]
def le4 (x : UInt32) : List UInt8 := [cvWB x, cvWB (shrW x 8), cvWB (shrW x 16), cvWB (shrW x 24)]
def outTo (m w : List UInt32) (n : Nat) : List UInt8 := (List.range n).flatMap fun i => le4 (addW (m.getD i 0) (w.getD i 0))
def blkS (key : List UInt8) (nonce counter : Int) : List UInt8 := outTo (mixR (iniW key nonce counter) 10) (iniW key nonce counter) 16
def inR (nonce : Int) : Bool := decide (0 ≤ nonce ∧ nonce ≤ 9007199254740991)
def blkE (nonce counter : Int) : Int := if inR nonce ∧ 0 ≤ counter ∧ counter ≤ 4294967295 then 0 else 2
/-- The stream over so many blocks. -/
def strF (key : List UInt8) (nonce : Int) : Nat → Nat → List UInt8 → List UInt8
  | 0, _, _ => []
  | n + 1, c, b => xorL (b.take 64) (blkS key nonce c) ++ strF key nonce n (c + 1) (b.drop 64)
def strS (key : List UInt8) (nonce : Int) (b : List UInt8) : List UInt8 := strF key nonce ((b.length + 63) / 64) 1 b
def strE (nonce : Int) (b : List UInt8) : Int := if (b.length : Int) > 65536 then 5 else if inR nonce then 0 else 2
def strV (key : List UInt8) (nonce : Int) (b : List UInt8) : List UInt8 := if strE nonce b = 0 then strS key nonce b else []
def key0 (k : List UInt8) : List UInt8 := macH k [101, 110, 99, 114, 121, 112, 116]
def key1 (k : List UInt8) : List UInt8 := macH k [97, 117, 116, 104, 101, 110, 116, 105, 99, 97, 116, 101]
def le8 (n : Int) : List UInt8 := (List.range 8).map fun i => UInt8.ofNat (n.toNat / 2 ^ (8 * i) % 256)
def tagS (key : List UInt8) (nonce : Int) (b : List UInt8) : List UInt8 := (macH key (le8 nonce ++ b)).take 16
def useK (k : List UInt8) : Bool := decide (1 ≤ k.length ∧ k.length ≤ 64)
def seaE (k : List UInt8) (nonce : Int) (b : List UInt8) : Int := if useK k then if (b.length : Int) > 65520 then 5 else if inR nonce then 0 else 2 else 1
def seaV (k : List UInt8) (nonce : Int) (b : List UInt8) : List UInt8 := if seaE k nonce b = 0 then strS (key0 k) nonce b ++ tagS (key1 k) nonce (strS (key0 k) nonce b) else []
def opeE (k : List UInt8) (nonce : Int) (b : List UInt8) : Int := if useK k then if (b.length : Int) > 65536 then 5 else if inR nonce then if b.length < 16 then 9 else
  if tagS (key1 k) nonce (b.take (b.length - 16)) = b.drop (b.length - 16) then 0 else 25 else 2 else 1
def opeV (k : List UInt8) (nonce : Int) (b : List UInt8) : List UInt8 := if opeE k nonce b = 0 then strS (key0 k) nonce (b.take (b.length - 16)) else []

def rol32_P (_ : UInt32) (k : Int) : Bool := k == 7 || k == 8 || k == 12 || k == 16
def rol32_r (x : UInt32) (k : Int) : UInt32 := rolW x k.toNat
def cFirst_P (_ : List UInt8) (nonce _ : Int) : Bool := inR nonce
def cFirst_r (key : List UInt8) (nonce counter : Int) : List UInt32 := iniW key nonce counter
def cBlk_P (_ : List UInt8) (nonce _ : Int) : Bool := inR nonce
def cBlk_r (key : List UInt8) (nonce counter : Int) : List UInt8 := blkS key nonce counter
def cRange_r (nonce : Int) : Bool := inR nonce
def cBlock_P (_ : List UInt8) (_ _ : Int) : Bool := true
def cBlock_r0 (key : List UInt8) (nonce counter : Int) : List UInt8 := if blkE nonce counter = 0 then blkS key nonce counter else []
def cBlock_r1 (_ : List UInt8) (nonce counter : Int) : Int := blkE nonce counter
def cStream_P (_ : List UInt8) (_ : Int) (_ : List UInt8) : Bool := true
def cStream_r0 (key : List UInt8) (nonce : Int) (b : List UInt8) : List UInt8 := strV key nonce b
def cStream_r1 (_ : List UInt8) (nonce : Int) (b : List UInt8) : Int := strE nonce b
def cKeys_P (k : List UInt8) : Bool := decide (k.length ≤ 1000000000)
def cKeys_r0 (k : List UInt8) : List UInt8 := key0 k
def cKeys_r1 (k : List UInt8) : List UInt8 := key1 k
def cTag_P (key : List UInt8) (nonce : Int) (b : List UInt8) : Bool := inR nonce && decide (key.length = 32 ∧ b.length ≤ 10000000)
def cTag_r (key : List UInt8) (nonce : Int) (b : List UInt8) : List UInt8 := tagS key nonce b
def cUsable_r (k : List UInt8) : Bool := useK k
def cSeal_P (_ : List UInt8) (_ : Int) (_ : List UInt8) : Bool := true
def cSeal_r0 (k : List UInt8) (nonce : Int) (b : List UInt8) : List UInt8 := seaV k nonce b
def cSeal_r1 (k : List UInt8) (nonce : Int) (b : List UInt8) : Int := seaE k nonce b
def cOpen_P (_ : List UInt8) (_ : Int) (_ : List UInt8) : Bool := true
def cOpen_r0 (k : List UInt8) (nonce : Int) (b : List UInt8) : List UInt8 := opeV k nonce b
def cOpen_r1 (k : List UInt8) (nonce : Int) (b : List UInt8) : Int := opeE k nonce b
def clone_byte_P (s : List UInt8) : Bool := decide (s.length ≤ 2000000000)
def clone_byte_r (s : List UInt8) : List UInt8 := s
def equal_byte_P (a b : List UInt8) : Bool := decide (a.length ≤ 1000000000000 ∧ b.length ≤ 1000000000000)
def equal_byte_r (a b : List UInt8) : Bool := a == b
def bytes_Equal_r (a b : List UInt8) : Bool := a == b
def rRotl_P (_ : UInt32) (n : Int) : Bool := decide (0 ≤ n ∧ n ≤ 16)
def rRotl_r (x : UInt32) (n : Int) : UInt32 := rolW x n.toNat
def rWords_P (_ : List UInt8) (nonce _ : Int) : Bool := inR nonce
def rWords_r (key : List UInt8) (nonce counter : Int) : List UInt32 := iniW key nonce counter
def rLittle_P (n bytes : Int) : Bool := decide (0 ≤ n ∧ n ≤ 9007199254740991 ∧ 0 ≤ bytes ∧ bytes ≤ 8)
def rLittle_r (n bytes : Int) : List UInt8 := (List.range bytes.toNat).map fun i => UInt8.ofNat (n.toNat / 2 ^ (8 * i) % 256)
def rNonces_r (n : Int) : Bool := inR n
def rBlock_P (_ : List UInt8) (_ _ : Int) : Bool := true
def rBlock_r0 (key : List UInt8) (nonce counter : Int) : List UInt8 := if blkE nonce counter = 0 then blkS key nonce counter else []
def rBlock_r1 (_ : List UInt8) (nonce counter : Int) : Int := blkE nonce counter
def rStream_P (_ : List UInt8) (_ : Int) (_ : List UInt8) : Bool := true
def rStream_r0 (key : List UInt8) (nonce : Int) (b : List UInt8) : List UInt8 := strV key nonce b
def rStream_r1 (_ : List UInt8) (nonce : Int) (b : List UInt8) : Int := strE nonce b
def rKeys_P (k : List UInt8) : Bool := decide (k.length ≤ 1000000000)
def rKeys_r0 (k : List UInt8) : List UInt8 := key0 k
def rKeys_r1 (k : List UInt8) : List UInt8 := key1 k
def rTag_P (key : List UInt8) (nonce : Int) (b : List UInt8) : Bool := inR nonce && decide (key.length = 32 ∧ b.length ≤ 10000000)
def rTag_r (key : List UInt8) (nonce : Int) (b : List UInt8) : List UInt8 := tagS key nonce b
def rSeal_P (_ : List UInt8) (_ : Int) (_ : List UInt8) : Bool := true
def rSeal_r0 (k : List UInt8) (nonce : Int) (b : List UInt8) : List UInt8 := seaV k nonce b
def rSeal_r1 (k : List UInt8) (nonce : Int) (b : List UInt8) : Int := seaE k nonce b
def rOpen_P (_ : List UInt8) (_ : Int) (_ : List UInt8) : Bool := true
def rOpen_r0 (k : List UInt8) (nonce : Int) (b : List UInt8) : List UInt8 := opeV k nonce b
def rOpen_r1 (k : List UInt8) (nonce : Int) (b : List UInt8) : Int := opeE k nonce b
def law47_short_P (l : List (List UInt8)) : Bool := decide (l.length ≤ 1000000000000)
def okLen (b : List UInt8) : Bool := decide (b.length ≤ 300 ∨ 65520 < b.length ∧ b.length ≤ 65545)
def law47_short_r (l : List (List UInt8)) : Bool := l.all okLen
def law47_awake_r : Bool := true
end Go.AI
