/- What the functions of wire and of its reference answer. -/
import Derived.Test.YtadpmbipdafjiaaA5
namespace Go.AI
open Go

def maxInt : Int := 9007199254740991
def numOf (n : Int) : Int := bif decide (n < 0) then 0 else bif decide (n > 9007199254740991) then 0 else n
/-- How many further bytes a number from 0 to 2^53 - 1 has. -/
def fur (m : Int) : Int :=
  if m < 128 then 0 else if m < 16384 then 1 else if m < 2097152 then 2 else if m < 268435456 then 3 else if m < 34359738368 then 4
  else if m < 4398046511104 then 5 else if m < 562949953421312 then 6 else 7
/-- The lowest k bytes of a number, the highest one first. -/
def lowB (m : Nat) : Nat → List UInt8
  | 0 => []
  | k + 1 => UInt8.ofNat (m / 2 ^ (8 * k) % 256) :: lowB m k
/-- The encoding of a number. -/
def encN (m : Int) : List UInt8 := UInt8.ofNat (256 - 2 ^ (8 - (fur m).toNat) + m.toNat / 2 ^ (8 * (fur m).toNat)) :: lowB m.toNat (fur m).toNat
def lenN (n : Nat) : Nat := if n = 0 then 0 else n.log2 + 1
/-- How many one bits a byte begins with. -/
def lead (b : UInt8) : Nat := if b < 128 then 0 else if b < 192 then 1 else if b < 224 then 2 else if b < 240 then 3 else if b < 248 then 4 else if b < 252 then 5 else if b < 254 then 6 else if b < 255 then 7 else 8
def bytesNum (a : Nat) (l : List UInt8) : Nat := l.foldl (fun a c => 256 * a + c.toNat) a
/-- What reading a number answers. -/
def readN : List UInt8 → Int × List UInt8 × Int
  | [] => (0, [], 9)
  | b :: r => if lead b = 8 then (0, [], 3) else if r.length < lead b then (0, [], 9)
    else if maxInt < (bytesNum (b.toNat - (256 - 2 ^ (8 - lead b))) (r.take (lead b)) : Int) ∨ fur (bytesNum (b.toNat - (256 - 2 ^ (8 - lead b))) (r.take (lead b))) ≠ lead b then (0, [], 3)
    else ((bytesNum (b.toNat - (256 - 2 ^ (8 - lead b))) (r.take (lead b)) : Int), r.drop (lead b), 0)
/-- A list's length is read, at most 65536. -/
def readLen (src : List UInt8) : Int × List UInt8 × Int :=
  let x := readN src
  if x.2.2 = 0 ∧ x.1 > 65536 then (0, [], 5) else x
def readBytes (src : List UInt8) : List UInt8 × List UInt8 × Int :=
  let x := readLen src
  if x.2.2 ≠ 0 then ([], [], x.2.2) else if (x.2.1.length : Int) < x.1 then ([], [], 9) else (x.2.1.take x.1.toNat, x.2.1.drop x.1.toNat, 0)
/-- So many numbers are read. -/
def readInts : Nat → List UInt8 → List Int → List Int × List UInt8 × Int
  | 0, b, out => (out, b, 0)
  | n + 1, b, out => let x := readN b
    if x.2.2 ≠ 0 then ([], [], x.2.2) else readInts n x.2.1 (out ++ [x.1])
def readList (src : List UInt8) : List Int × List UInt8 × Int :=
  let x := readLen src
  if x.2.2 ≠ 0 then ([], [], x.2.2) else readInts x.1.toNat x.2.1 []
def encInts (l : List Int) : List UInt8 := encN (numOf l.length) ++ l.flatMap fun n => encN (numOf n)

def ref02_power_P (n : Int) : Bool := decide (0 ≤ n ∧ n ≤ 62)
def ref02_power_r (n : Int) : Int := ((2 ^ n.toNat : Nat) : Int)
def ref02_number_r (n : Int) : Int := numOf n
def ref02_Size_r (n : Int) : Int := fur (numOf n) + 1
def ref02_PutInt_P (dst : List UInt8) (n : Int) : Bool := decide (dst.length ≤ 2000000000 ∧ -9223372036854775808 ≤ n ∧ n < 9223372036854775808)
def ref02_PutInt_r (dst : List UInt8) (n : Int) : List UInt8 := dst ++ encN (numOf n)
def ref02_rest_P (b : List UInt8) : Bool := decide (b.length ≤ 2000000000)
def ref02_rest_r (b : List UInt8) : List UInt8 := b
def ref02_Int_P (b : List UInt8) : Bool := decide (b.length ≤ 2000000000)
def ref02_Int_r0 (b : List UInt8) : Int := (readN b).1
def ref02_Int_r1 (b : List UInt8) : List UInt8 := (readN b).2.1
def ref02_Int_r2 (b : List UInt8) : Int := (readN b).2.2
def ref02_PutBytes_P (dst b : List UInt8) : Bool := decide (dst.length + b.length ≤ 1000000000)
def ref02_PutBytes_r (dst b : List UInt8) : List UInt8 := dst ++ encN (numOf b.length) ++ b
def ref02_PutText_P (dst b : List UInt8) : Bool := decide (dst.length + b.length ≤ 1000000000)
def ref02_PutText_r (dst b : List UInt8) : List UInt8 := dst ++ encN (numOf b.length) ++ b
def ref02_PutInts_P (dst : List UInt8) (l : List Int) : Bool := decide (dst.length + 8 * l.length ≤ 1000000000) && l.all fun n => decide (-9223372036854775808 ≤ n ∧ n < 9223372036854775808)
def ref02_PutInts_r (dst : List UInt8) (l : List Int) : List UInt8 := dst ++ encInts l
def ref02_length_P (b : List UInt8) : Bool := decide (b.length ≤ 2000000000)
def ref02_length_r0 (b : List UInt8) : Int := (readLen b).1
def ref02_length_r1 (b : List UInt8) : List UInt8 := (readLen b).2.1
def ref02_length_r2 (b : List UInt8) : Int := (readLen b).2.2
def ref02_Bytes_P (b : List UInt8) : Bool := decide (b.length ≤ 2000000000)
def ref02_Bytes_r0 (b : List UInt8) : List UInt8 := (readBytes b).1
def ref02_Bytes_r1 (b : List UInt8) : List UInt8 := (readBytes b).2.1
def ref02_Bytes_r2 (b : List UInt8) : Int := (readBytes b).2.2
def ref02_Text_P (b : List UInt8) : Bool := decide (b.length ≤ 2000000000)
def ref02_Text_r0 (b : List UInt8) : List UInt8 := (readBytes b).1
def ref02_Text_r1 (b : List UInt8) : List UInt8 := (readBytes b).2.1
def ref02_Text_r2 (b : List UInt8) : Int := (readBytes b).2.2
def ref02_Ints_P (b : List UInt8) : Bool := decide (b.length ≤ 2000000000)
def ref02_Ints_r0 (b : List UInt8) : List Int := (readList b).1
def ref02_Ints_r1 (b : List UInt8) : List UInt8 := (readList b).2.1
def ref02_Ints_r2 (b : List UInt8) : Int := (readList b).2.2
def bits_Len64_P (x : Int) : Bool := decide (0 ≤ x ∧ x < 18446744073709551616)
def bits_Len64_r (x : Int) : Int := lenN x.toNat
def bits_Len8_r (x : UInt8) : Int := lenN x.toNat
def bits_Len_P (x : Int) : Bool := decide (0 ≤ x ∧ x < 18446744073709551616)
def bits_Len_r (x : Int) : Int := lenN x.toNat
def bits_LeadingZeros8_r (x : UInt8) : Int := 8 - lenN x.toNat
def wire_number_r (n : Int) : Int := numOf n
def wire_further_P (n : Int) : Bool := decide (0 ≤ n ∧ n ≤ 9007199254740991)
def wire_further_r (n : Int) : Int := fur n
def wire_Size_r (n : Int) : Int := fur (numOf n) + 1
def clone_byte_P (s : List UInt8) : Bool := decide (s.length ≤ 2000000000)
def clone_byte_r (s : List UInt8) : List UInt8 := s
def clone_int_P (s : List Int) : Bool := decide (s.length ≤ 2000000000)
def clone_int_r (s : List Int) : List Int := s
def wire_put_P (dst : List UInt8) (n : Int) : Bool := decide (dst.length ≤ 2000000000 ∧ -9223372036854775808 ≤ n ∧ n < 9223372036854775808)
def wire_put_r (dst : List UInt8) (n : Int) : List UInt8 := dst ++ encN (numOf n)
def wire_PutInt_P (dst : List UInt8) (n : Int) : Bool := decide (dst.length ≤ 2000000000 ∧ -9223372036854775808 ≤ n ∧ n < 9223372036854775808)
def wire_PutInt_r (dst : List UInt8) (n : Int) : List UInt8 := dst ++ encN (numOf n)
def wire_Int_P (b : List UInt8) : Bool := decide (b.length ≤ 2000000000)
def wire_Int_r0 (b : List UInt8) : Int := (readN b).1
def wire_Int_r1 (b : List UInt8) : List UInt8 := (readN b).2.1
def wire_Int_r2 (b : List UInt8) : Int := (readN b).2.2
def wire_PutBytes_P (dst b : List UInt8) : Bool := decide (dst.length + b.length ≤ 1000000000)
def wire_PutBytes_r (dst b : List UInt8) : List UInt8 := dst ++ encN (numOf b.length) ++ b
def wire_PutText_P (dst b : List UInt8) : Bool := decide (dst.length + b.length ≤ 1000000000)
def wire_PutText_r (dst b : List UInt8) : List UInt8 := dst ++ encN (numOf b.length) ++ b
def wire_PutInts_P (dst : List UInt8) (l : List Int) : Bool := decide (dst.length + 8 * l.length ≤ 1000000000) && l.all fun n => decide (-9223372036854775808 ≤ n ∧ n < 9223372036854775808)
def wire_PutInts_r (dst : List UInt8) (l : List Int) : List UInt8 := dst ++ encInts l
def wire_Bytes_P (b : List UInt8) : Bool := decide (b.length ≤ 2000000000)
def wire_Bytes_r0 (b : List UInt8) : List UInt8 := (readBytes b).1
def wire_Bytes_r1 (b : List UInt8) : List UInt8 := (readBytes b).2.1
def wire_Bytes_r2 (b : List UInt8) : Int := (readBytes b).2.2
def wire_Text_P (b : List UInt8) : Bool := decide (b.length ≤ 2000000000)
def wire_Text_r0 (b : List UInt8) : List UInt8 := (readBytes b).1
def wire_Text_r1 (b : List UInt8) : List UInt8 := (readBytes b).2.1
def wire_Text_r2 (b : List UInt8) : Int := (readBytes b).2.2
def wire_Ints_P (b : List UInt8) : Bool := decide (b.length ≤ 2000000000)
def wire_Ints_r0 (b : List UInt8) : List Int := (readList b).1
def wire_Ints_r1 (b : List UInt8) : List UInt8 := (readList b).2.1
def wire_Ints_r2 (b : List UInt8) : Int := (readList b).2.2
def bytes_Equal_r (a b : List UInt8) : Bool := a == b
/-- The order of byte strings. -/
def cmpB : List UInt8 → List UInt8 → Int
  | [], [] => 0
  | [], _ :: _ => -1
  | _ :: _, [] => 1
  | a :: as, b :: bs => if a < b then -1 else if b < a then 1 else cmpB as bs
def bytes_Compare_r (a b : List UInt8) : Int := cmpB a b
def equal_int_P (a b : List Int) : Bool := decide (a.length ≤ 1000000000000 ∧ b.length ≤ 1000000000000)
def equal_int_r (a b : List Int) : Bool := a == b
def law02_short_P (l : List (List UInt8)) : Bool := decide (l.length ≤ 1000000000000)
def law02_short_r (l : List (List UInt8)) : Bool := l.all fun b => decide (b.length ≤ 400)
def law02_numbers_P (l : List Int) : Bool := decide (l.length ≤ 2000000000)
def law02_numbers_r (l : List Int) : List Int := l.filter fun n => decide (0 ≤ n ∧ n ≤ 9007199254740991)
def law02_awake_r : Bool := true
end Go.AI
