/- Texts of the proof, joined: DiskS DigestS WireS CipherS LogS TransS TransK TopS2 TopS. -/
import Derived.Test.YtnmidfcefljafaaGreatQtA5
namespace Go.AI
abbrev ZB := List UInt8
abbrev ZW := List UInt32
abbrev ZR := (Int × ((List UInt8) × Unit))
abbrev ZD := ((List (List UInt8)) × ((List ZR) × Unit))
abbrev ZL := (Int × (Int × (Int × Unit)))
abbrev ZH := ((List UInt32) × ((List UInt8) × (Int × Unit)))
end Go.AI
namespace Go.AI
open Go
abbrev Page := List UInt8
abbrev Pend := Int × (Page × Unit)
abbrev DK := List Page × (List Pend × Unit)
abbrev DOp := Int × (Int × (List Page × Unit))
def dk0 : DK := ([], ([], ()))
def putS (s : List Page) (l : List Pend) : List Page := l.foldl (fun o p => o.set p.1.toNat p.2.1) s
def conS (d : DK) : List Page := putS d.1 d.2.1
def okP (n : Nat) (l : List Pend) : Bool := l.all fun p => decide (0 ≤ p.1 ∧ p.1 < (n : Int))
def okD (d : DK) : Bool := decide (1 ≤ d.1.length ∧ d.1.length ≤ 8192) && okP d.1.length d.2.1
def chkD (d : DK) : Int := if okD d then 0 else 2
def fitD (d : DK) (at_ n : Int) : Bool := decide (0 ≤ at_ ∧ 0 ≤ n ∧ at_ + n ≤ d.1.length)
def wrS (at_ : Int) : List Page → List Pend
 | [] => []
 | p :: l => (at_, (p, ())) :: wrS (at_ + 1) l
def stepD (d : DK) (op : DOp) : DK × Int :=
 if op.1 = 0 then (if fitD d op.2.1 op.2.2.1.length then ((d.1, (d.2.1 ++ wrS op.2.1 op.2.2.1, ())), 0) else (dk0, 2))
 else if op.1 = 1 then ((conS d, ([], ())), 0) else (dk0, 1)
def goD (d : DK) : List DOp → Int → DK × (Int × Int)
 | [], i => (d, (i, 0))
 | op :: l, i => if (stepD d op).2 = 0 then goD (stepD d op).1 l (i + 1) else (dk0, (i, (stepD d op).2))
def runD (d : DK) (l : List DOp) : DK × (Int × Int) := if okD d then goD d l 0 else (dk0, (0, 2))
def sumO (l : List DOp) : Nat := (l.map fun op => op.2.2.1.length).sum
def smallD (d : DK) : Bool := decide (d.1.length ≤ 1000000 ∧ d.2.1.length ≤ 100000000)
def decD (ch : List Int) (n : Nat) : Int := match ch with
 | [] => 0
 | c :: _ => c % n
def firsts : List Pend → List Int → List Int
 | [], _ => []
 | p :: l, seen => if seen.contains p.1 then firsts l seen else p.1 :: firsts l (p.1 :: seen)
def versD (d : DK) (at_ : Int) : List Page := d.1.getD at_.toNat z16 :: (d.2.1.filter fun p => p.1 == at_).map fun p => p.2.1
def crStep (d : DK) (s : List Int × List Page) (at_ : Int) : List Int × List Page :=
 (s.1.tail, s.2.set at_.toNat ((versD d at_).getD (decD s.1 (versD d at_).length).toNat z16))
def crGo (d : DK) (ch : List Int) : List Int × List Page := (firsts d.2.1 []).foldl (crStep d) (ch, d.1)
def crashD (d : DK) (ch : List Int) : DK × (List Int × Int) := if okD d then (((crGo d ch).2, ([], ())), ((crGo d ch).1, 0)) else (dk0, ([], 2))
def intD (d : DK) (l : List DOp) (after : Int) (ch : List Int) : DK × (List Int × Int) :=
 if okD d then (if 0 ≤ after ∧ after ≤ l.length then (if (runD d (l.take after.toNat)).2.2 = 0 then crashD (runD d (l.take after.toNat)).1 ch else (dk0, ([], (runD d (l.take after.toNat)).2.2))) else (dk0, ([], 2))) else (dk0, ([], 2))
def clPage_P (s : List Page) : Bool := decide (s.length ≤ 2000000000)
def clPage_r (s : List Page) : List Page := s
def clPend_P (s : List Pend) : Bool := decide (s.length ≤ 2000000000)
def clPend_r (s : List Pend) : List Pend := s
def dFits_P (d : DK) (_ _ : Int) : Bool := smallD d
def dFits_r (d : DK) (at_ n : Int) : Bool := fitD d at_ n
def dNew_P (_ : Int) : Bool := true
def newD (n : Int) : DK := if 1 ≤ n ∧ n ≤ 8192 then (List.replicate n.toNat z16, ([], ())) else dk0
def newE (n : Int) : Int := if 1 ≤ n ∧ n ≤ 8192 then 0 else 2
def dNew_r0 (n : Int) : DK := newD n
def dNew_r1 (n : Int) : Int := newE n
def dCheck_P (d : DK) : Bool := smallD d
def dCheck_r (d : DK) : Int := chkD d
def contents_P (d : DK) : Bool := smallD d && okP d.1.length d.2.1
def contents_r (d : DK) : List Page := conS d
def readV (d : DK) (at_ n : Int) : List Page := if okD d && fitD d at_ n then ((conS d).drop at_.toNat).take n.toNat else []
def readE (d : DK) (at_ n : Int) : Int := if okD d && fitD d at_ n then 0 else 2
def dRead_P (d : DK) (_ _ : Int) : Bool := smallD d
def dRead_r0 (d : DK) (at_ n : Int) : List Page := readV d at_ n
def dRead_r1 (d : DK) (at_ n : Int) : Int := readE d at_ n
def runP (d : DK) (l : List DOp) : Bool := decide (d.1.length ≤ 1000000 ∧ d.2.1.length ≤ 10000000 ∧ l.length ≤ 1000000 ∧ sumO l ≤ 10000000)
def dRun_P (d : DK) (l : List DOp) : Bool := runP d l
def dRun_r0 (d : DK) (l : List DOp) : DK := (runD d l).1
def dRun_r1 (d : DK) (l : List DOp) : Int := (runD d l).2.1
def dRun_r2 (d : DK) (l : List DOp) : Int := (runD d l).2.2
end Go.AI
namespace Go.AI
open Go
def ror (x : UInt32) (n : Int) : UInt32 := orW (shrW x n) (shlW x (subI 32 n))
def bs0 (a : UInt32) : UInt32 := xorW (xorW (ror a 2) (ror a 13)) (ror a 22)
def bs1 (e : UInt32) : UInt32 := xorW (xorW (ror e 6) (ror e 11)) (ror e 25)
def ss0 (x : UInt32) : UInt32 := xorW (xorW (ror x 7) (ror x 18)) (shrW x 3)
def ss1 (x : UInt32) : UInt32 := xorW (xorW (ror x 17) (ror x 19)) (shrW x 10)
def chW (e f g : UInt32) : UInt32 := xorW (andW e f) (andW (notW e) g)
def maW (a b c : UInt32) : UInt32 := xorW (xorW (andW a b) (andW a c)) (andW b c)
def wdAt (b : List UInt8) (t : Nat) : UInt32 :=
 orW (shlW (orW (shlW (orW (shlW (orW (shlW 0 8) (cvBW (b.getD (4 * t) 0))) 8) (cvBW (b.getD (4 * t + 1) 0))) 8) (cvBW (b.getD (4 * t + 2) 0))) 8) (cvBW (b.getD (4 * t + 3) 0))
def nextW (w : List UInt32) : List UInt32 := w.tail ++ [addW (addW (addW (w.getD 0 0) (ss0 (w.getD 1 0))) (w.getD 9 0)) (ss1 (w.getD 14 0))]
def win (b : List UInt8) : Nat → List UInt32
 | 0 => (List.range 16).map (wdAt b)
 | t + 1 => nextW (win b t)
def wd (b : List UInt8) (t : Nat) : UInt32 := (win b t).getD 0 0
def n8 (s : List UInt32) : List UInt32 := [s.getD 0 0, s.getD 1 0, s.getD 2 0, s.getD 3 0, s.getD 4 0, s.getD 5 0, s.getD 6 0, s.getD 7 0]
def rnd (k w : UInt32) (x : List UInt32) : List UInt32 :=
 let t1 := addW (addW (addW (addW (x.getD 7 0) (bs1 (x.getD 4 0))) (chW (x.getD 4 0) (x.getD 5 0) (x.getD 6 0))) k) w
 let t2 := addW (bs0 (x.getD 0 0)) (maW (x.getD 0 0) (x.getD 1 0) (x.getD 2 0))
 [addW t1 t2, x.getD 0 0, x.getD 1 0, x.getD 2 0, addW (x.getD 3 0) t1, x.getD 4 0, x.getD 5 0, x.getD 6 0]
def kN : List Nat := [1116352408, 1899447441, 3049323471, 3921009573, 961987163, 1508970993, 2453635748, 2870763221, 3624381080, 310598401, 607225278, 1426881987, 1925078388, 2162078206, 2614888103, 3248222580, 3835390401, 4022224774, 264347078, 604807628, 770255983, 1249150122, 1555081692, 1996064986, 2554220882, 2821834349, 2952996808, 3210313671, 3336571891, 3584528711, 113926993, 338241895, 666307205, 773529912, 1294757372, 1396182291, 1695183700, 1986661051, 2177026350, 2456956037, 2730485921, 2820302411, 3259730800, 3345764771, 3516065817, 3600352804, 4094571909, 275423344, 430227734, 506948616, 659060556, 883997877, 958139571, 1322822218, 1537002063, 1747873779, 1955562222, 2024104815, 2227730452, 2361852424, 2428436474, 2756734187, 3204031479, 3329325298]
def kW : List UInt32 := [1116352408, 1899447441, 3049323471, 3921009573, 961987163, 1508970993, 2453635748, 2870763221, 3624381080, 310598401, 607225278, 1426881987, 1925078388, 2162078206, 2614888103, 3248222580, 3835390401, 4022224774, 264347078, 604807628, 770255983, 1249150122, 1555081692, 1996064986, 2554220882, 2821834349, 2952996808, 3210313671, 3336571891, 3584528711, 113926993, 338241895, 666307205, 773529912, 1294757372, 1396182291, 1695183700, 1986661051, 2177026350, 2456956037, 2730485921, 2820302411, 3259730800, 3345764771, 3516065817, 3600352804, 4094571909, 275423344, 430227734, 506948616, 659060556, 883997877, 958139571, 1322822218, 1537002063, 1747873779, 1955562222, 2024104815, 2227730452, 2361852424, 2428436474, 2756734187, 3204031479, 3329325298]
def rds (b : List UInt8) (s : List UInt32) : Nat → List UInt32
 | 0 => n8 s
 | t + 1 => rnd (kW.getD t 0) (wd b t) (rds b s t)
def add8 (x s : List UInt32) : List UInt32 := [addW (x.getD 0 0) (s.getD 0 0), addW (x.getD 1 0) (s.getD 1 0), addW (x.getD 2 0) (s.getD 2 0), addW (x.getD 3 0) (s.getD 3 0), addW (x.getD 4 0) (s.getD 4 0), addW (x.getD 5 0) (s.getD 5 0), addW (x.getD 6 0) (s.getD 6 0), addW (x.getD 7 0) (s.getD 7 0)]
def absW (s : List UInt32) (b : List UInt8) : List UInt32 := add8 (rds b s 64) s
def rorN (x n : Nat) : Nat := (x >>> n) ||| ((x <<< (32 - n)) % 4294967296)
def bs0N (a : Nat) : Nat := rorN a 2 ^^^ rorN a 13 ^^^ rorN a 22
def bs1N (e : Nat) : Nat := rorN e 6 ^^^ rorN e 11 ^^^ rorN e 25
def ss0N (x : Nat) : Nat := rorN x 7 ^^^ rorN x 18 ^^^ (x >>> 3)
def ss1N (x : Nat) : Nat := rorN x 17 ^^^ rorN x 19 ^^^ (x >>> 10)
def chN (e f g : Nat) : Nat := (e &&& f) ^^^ ((4294967295 - e) &&& g)
def maN (a b c : Nat) : Nat := (a &&& b) ^^^ (a &&& c) ^^^ (b &&& c)
def wdN (b : List Nat) (t : Nat) : Nat := b.getD (4 * t) 0 * 16777216 + b.getD (4 * t + 1) 0 * 65536 + b.getD (4 * t + 2) 0 * 256 + b.getD (4 * t + 3) 0
def nextN (w : List Nat) : List Nat := w.tail ++ [(w.getD 0 0 + ss0N (w.getD 1 0) + w.getD 9 0 + ss1N (w.getD 14 0)) % 4294967296]
def rdsN : List Nat → List Nat → Nat → Nat → Nat → Nat → Nat → Nat → Nat → Nat → List Nat
 | [], _, a, b, c, d, e, f, g, h => [a, b, c, d, e, f, g, h]
 | k :: ks, w, a, b, c, d, e, f, g, h =>
  let t1 := h + bs1N e + chN e f g + k + w.getD 0 0
  rdsN ks (nextN w) ((t1 + (bs0N a + maN a b c)) % 4294967296) a b c ((d + t1) % 4294967296) e f g
def absS (s : List UInt32) (b : List UInt8) : List UInt32 :=
 let n := s.map UInt32.toNat
 let x := rdsN kN ((List.range 16).map (wdN (b.map UInt8.toNat))) (n.getD 0 0) (n.getD 1 0) (n.getD 2 0) (n.getD 3 0) (n.getD 4 0) (n.getD 5 0) (n.getD 6 0) (n.getD 7 0)
 [UInt32.ofNat (x.getD 0 0 + n.getD 0 0), UInt32.ofNat (x.getD 1 0 + n.getD 1 0), UInt32.ofNat (x.getD 2 0 + n.getD 2 0), UInt32.ofNat (x.getD 3 0 + n.getD 3 0), UInt32.ofNat (x.getD 4 0 + n.getD 4 0), UInt32.ofNat (x.getD 5 0 + n.getD 5 0), UInt32.ofNat (x.getD 6 0 + n.getD 6 0), UInt32.ofNat (x.getD 7 0 + n.getD 7 0)]
def absN : Nat → List UInt32 → List UInt8 → List UInt32
 | 0, s, _ => s
 | n + 1, s, l => absN n (absS s (l.take 64)) (l.drop 64)
abbrev HH := List UInt32 × List UInt8 × Int × Unit
def wrH (h : HH) (b : List UInt8) : HH := let l := h.2.1 ++ b; (absN (l.length / 64) h.1 l, l.drop (64 * (l.length / 64)), h.2.2.1 + b.length, ())
def newH : HH := ([1779033703, 3144134277, 1013904242, 2773480762, 1359893119, 2600822924, 528734635, 1541459225], [], 0, ())
def be8 (n : Nat) : List UInt8 := (List.range 8).map fun i => UInt8.ofNat (n / 2 ^ (56 - 8 * i) % 256)
def padH (h : HH) : List UInt8 := 128 :: (List.replicate ((119 - h.2.1.length) % 64) 0 ++ be8 (8 * h.2.2.1.toNat))
def outH (s : List UInt32) : List UInt8 := (List.range 32).map fun i => cvWB (shrW (s.getD (i / 4) 0) (24 - 8 * (i % 4 : Nat)))
def finH (h : HH) : List UInt8 := outH (wrH h (padH h)).1
def sumH (b : List UInt8) : List UInt8 := finH (wrH newH b)
def okH (h : HH) : Bool := decide (h.1.length = 8 ∧ h.2.1.length ≤ 1000 ∧ 0 ≤ h.2.2.1 ∧ h.2.2.1 ≤ 1152921504606846976)
def keyH (k : List UInt8) (x : UInt8) : List UInt8 := let l := (if k.length > 64 then sumH k else k); (l ++ List.replicate (64 - l.length) 0).map fun b => xorB b x
def macH (k b : List UInt8) : List UInt8 := sumH (keyH k 92 ++ sumH (keyH k 54 ++ b))
def xorL (a b : List UInt8) : List UInt8 := List.zipWith xorB a b
def rotr_P (_ : UInt32) (n : Int) : Bool := decide (0 ≤ n ∧ n ≤ 32)
def rotr_r (x : UInt32) (n : Int) : UInt32 := ror x n
def shr_P (_ : UInt32) (n : Int) : Bool := decide (0 ≤ n)
def shr_r (x : UInt32) (n : Int) : UInt32 := shrW x n
def three_P (_ : UInt32) (a b c : Int) (l : Nat) : Bool := decide (0 ≤ a ∧ a ≤ 32 ∧ 0 ≤ b ∧ b ≤ 32 ∧ 0 ≤ c ∧ c ≤ 32) && (l == 169 || l == 177)
def three_r (x : UInt32) (a b c : Int) (l : Nat) : UInt32 := xorW (xorW (ror x a) (ror x b)) (bif l == 169 then ror x c else shrW x c)
def consts_P : Bool := true
def consts_r : List UInt32 := kW
def absorb_P (s : List UInt32) (b : List UInt8) : Bool := decide (s.length = 8 ∧ 64 ≤ b.length)
def absorb_r (s : List UInt32) (b : List UInt8) : List UInt32 := absS s (b.take 64)
def hNew_P : Bool := true
def hNew_r : HH := newH
def hwrite_P (h : HH) (b : List UInt8) : Bool := okH h && decide (b.length ≤ 1000000000)
def hwrite_r (h : HH) (b : List UInt8) : HH := wrH h b
def hfinish_P (h : HH) : Bool := okH h && decide (h.2.1.length < 64)
def hfinish_r (h : HH) : List UInt8 := finH h
def dSum_P (b : List UInt8) : Bool := decide (b.length ≤ 1000000000)
def dSum_r (b : List UInt8) : List UInt8 := sumH b
def padded_P (k : List UInt8) (_ : UInt8) : Bool := decide (k.length ≤ 1000000000)
def padded_r (k : List UInt8) (x : UInt8) : List UInt8 := keyH k x
def dMac_P (k b : List UInt8) : Bool := decide (k.length ≤ 1000000000 ∧ b.length ≤ 100000000)
def dMac_r (k b : List UInt8) : List UInt8 := macH k b
end Go.AI
namespace Go.AI
open Go
def maxInt : Int := 9007199254740991
def numOf (n : Int) : Int := bif decide (n < 0) then 0 else bif decide (n > 9007199254740991) then 0 else n
def fur (m : Int) : Int :=
 if m < 128 then 0 else if m < 16384 then 1 else if m < 2097152 then 2 else if m < 268435456 then 3 else if m < 34359738368 then 4
 else if m < 4398046511104 then 5 else if m < 562949953421312 then 6 else 7
def lowB (m : Nat) : Nat → List UInt8
 | 0 => []
 | k + 1 => UInt8.ofNat (m / 2 ^ (8 * k) % 256) :: lowB m k
def encN (m : Int) : List UInt8 := UInt8.ofNat (256 - 2 ^ (8 - (fur m).toNat) + m.toNat / 2 ^ (8 * (fur m).toNat)) :: lowB m.toNat (fur m).toNat
def lenN (n : Nat) : Nat := if n = 0 then 0 else n.log2 + 1
def lead (b : UInt8) : Nat := if b < 128 then 0 else if b < 192 then 1 else if b < 224 then 2 else if b < 240 then 3 else if b < 248 then 4 else if b < 252 then 5 else if b < 254 then 6 else if b < 255 then 7 else 8
def bytesNum (a : Nat) (l : List UInt8) : Nat := l.foldl (fun a c => 256 * a + c.toNat) a
def readN : List UInt8 → Int × List UInt8 × Int
 | [] => (0, [], 9)
 | b :: r => if lead b = 8 then (0, [], 3) else if r.length < lead b then (0, [], 9)
  else if maxInt < (bytesNum (b.toNat - (256 - 2 ^ (8 - lead b))) (r.take (lead b)) : Int) ∨ fur (bytesNum (b.toNat - (256 - 2 ^ (8 - lead b))) (r.take (lead b))) ≠ lead b then (0, [], 3)
  else ((bytesNum (b.toNat - (256 - 2 ^ (8 - lead b))) (r.take (lead b)) : Int), r.drop (lead b), 0)
def readLen (src : List UInt8) : Int × List UInt8 × Int :=
 let x := readN src
 if x.2.2 = 0 ∧ x.1 > 65536 then (0, [], 5) else x
def readBytes (src : List UInt8) : List UInt8 × List UInt8 × Int :=
 let x := readLen src
 if x.2.2 ≠ 0 then ([], [], x.2.2) else if (x.2.1.length : Int) < x.1 then ([], [], 9) else (x.2.1.take x.1.toNat, x.2.1.drop x.1.toNat, 0)
def bits_Len64_P (x : Int) : Bool := decide (0 ≤ x ∧ x < 18446744073709551616)
def bits_Len64_r (x : Int) : Int := lenN x.toNat
def bits_Len8_r (x : UInt8) : Int := lenN x.toNat
def bits_Len_P (x : Int) : Bool := decide (0 ≤ x ∧ x < 18446744073709551616)
def bits_Len_r (x : Int) : Int := lenN x.toNat
def bits_LeadingZeros8_r (x : UInt8) : Int := 8 - lenN x.toNat
def wire_number_r (n : Int) : Int := numOf n
def wire_further_P (n : Int) : Bool := decide (0 ≤ n ∧ n ≤ 9007199254740991)
def wire_further_r (n : Int) : Int := fur n
def clone_byte_P (s : List UInt8) : Bool := decide (s.length ≤ 2000000000)
def clone_byte_r (s : List UInt8) : List UInt8 := s
def wire_put_P (dst : List UInt8) (n : Int) : Bool := decide (dst.length ≤ 2000000000 ∧ -9223372036854775808 ≤ n ∧ n < 9223372036854775808)
def wire_put_r (dst : List UInt8) (n : Int) : List UInt8 := dst ++ encN (numOf n)
def wire_PutInt_P (dst : List UInt8) (n : Int) : Bool := decide (dst.length ≤ 2000000000 ∧ -9223372036854775808 ≤ n ∧ n < 9223372036854775808)
def wire_PutInt_r (dst : List UInt8) (n : Int) : List UInt8 := dst ++ encN (numOf n)
def wire_Int_P (b : List UInt8) : Bool := decide (b.length ≤ 2000000000)
def wire_Int_r0 (b : List UInt8) : Int := (readN b).1
def wire_Int_r1 (b : List UInt8) : List UInt8 := (readN b).2.1
def wire_Int_r2 (b : List UInt8) : Int := (readN b).2.2
def wire_PutBytes_P (dst b : List UInt8) : Bool := decide (dst.length + b.length ≤ 1000000000)
def wire_PutBytes_r (dst b : List UInt8) : List UInt8 := dst ++ encN (numOf b.length) ++ b
def wire_Bytes_P (b : List UInt8) : Bool := decide (b.length ≤ 2000000000)
def wire_Bytes_r0 (b : List UInt8) : List UInt8 := (readBytes b).1
def wire_Bytes_r1 (b : List UInt8) : List UInt8 := (readBytes b).2.1
def wire_Bytes_r2 (b : List UInt8) : Int := (readBytes b).2.2
end Go.AI
namespace Go.AI
open Go
def rolN (x k : Nat) : Nat := (x * 2 ^ k) % 4294967296 + x / 2 ^ (32 - k)
def rolW (x : UInt32) (k : Nat) : UInt32 := UInt32.ofNat (rolN x.toNat k)
def stp (w : List UInt32) (t f o k : Nat) : List UInt32 :=
 (w.set t (addW (w.getD t 0) (w.getD f 0))).set o (rolW (xorW ((w.set t (addW (w.getD t 0) (w.getD f 0))).getD o 0) ((w.set t (addW (w.getD t 0) (w.getD f 0))).getD t 0)) k)
def qrt (w : List UInt32) (a b c d : Nat) : List UInt32 := stp (stp (stp (stp w a b d 16) c d b 12) a b d 8) c d b 7
def colR (w : List UInt32) : Nat → List UInt32
 | 0 => w
 | i + 1 => qrt (colR w i) i (4 + i) (8 + i) (12 + i)
def diaR (w : List UInt32) : Nat → List UInt32
 | 0 => w
 | i + 1 => qrt (diaR w i) i (4 + (i + 1) % 4) (8 + (i + 2) % 4) (12 + (i + 3) % 4)
def mixR (w : List UInt32) : Nat → List UInt32
 | 0 => w
 | n + 1 => diaR (colR (mixR w n) 4) 4
def kwd (key : List UInt8) (i : Nat) : UInt32 := UInt32.ofNat ((key.getD (4 * i) 0).toNat + 256 * (key.getD (4 * i + 1) 0).toNat + 65536 * (key.getD (4 * i + 2) 0).toNat + 16777216 * (key.getD (4 * i + 3) 0).toNat)
def iniW (key : List UInt8) (nonce counter : Int) : List UInt32 :=
 [1634760805, 857760878, 2036477234, 1797285236, kwd key 0, kwd key 1, kwd key 2, kwd key 3, kwd key 4, kwd key 5, kwd key 6, kwd key 7, cvIW counter, 0, cvIW nonce, cvIW (nonce / 4294967296)]
def le4 (x : UInt32) : List UInt8 := [cvWB x, cvWB (shrW x 8), cvWB (shrW x 16), cvWB (shrW x 24)]
def outTo (m w : List UInt32) (n : Nat) : List UInt8 := (List.range n).flatMap fun i => le4 (addW (m.getD i 0) (w.getD i 0))
def blkS (key : List UInt8) (nonce counter : Int) : List UInt8 := outTo (mixR (iniW key nonce counter) 10) (iniW key nonce counter) 16
def inR (nonce : Int) : Bool := decide (0 ≤ nonce ∧ nonce ≤ 9007199254740991)
def strF (key : List UInt8) (nonce : Int) : Nat → Nat → List UInt8 → List UInt8
 | 0, _, _ => []
 | n + 1, c, b => xorL (b.take 64) (blkS key nonce c) ++ strF key nonce n (c + 1) (b.drop 64)
def strS (key : List UInt8) (nonce : Int) (b : List UInt8) : List UInt8 := strF key nonce ((b.length + 63) / 64) 1 b
def strE (nonce : Int) (b : List UInt8) : Int := if (b.length : Int) > 65536 then 5 else if inR nonce then 0 else 2
def strV (key : List UInt8) (nonce : Int) (b : List UInt8) : List UInt8 := if strE nonce b = 0 then strS key nonce b else []
def key0 (k : List UInt8) : List UInt8 := macH k [101, 110, 99, 114, 121, 112, 116]
def key1 (k : List UInt8) : List UInt8 := macH k [97, 117, 116, 104, 101, 110, 116, 105, 99, 97, 116, 101]
def le8 (n : Int) : List UInt8 := (List.range 8).map fun i => UInt8.ofNat (n.toNat / 2 ^ (8 * i) % 256)
def tagS (key : List UInt8) (nonce : Int) (b : List UInt8) : List UInt8 := (macH key (le8 nonce ++ b)).take 16
def useK (k : List UInt8) : Bool := decide (1 ≤ k.length ∧ k.length ≤ 64)
def seaE (k : List UInt8) (nonce : Int) (b : List UInt8) : Int := if useK k then if (b.length : Int) > 65520 then 5 else if inR nonce then 0 else 2 else 1
def seaV (k : List UInt8) (nonce : Int) (b : List UInt8) : List UInt8 := if seaE k nonce b = 0 then strS (key0 k) nonce b ++ tagS (key1 k) nonce (strS (key0 k) nonce b) else []
def opeE (k : List UInt8) (nonce : Int) (b : List UInt8) : Int := if useK k then if (b.length : Int) > 65536 then 5 else if inR nonce then if b.length < 16 then 9 else
 if tagS (key1 k) nonce (b.take (b.length - 16)) = b.drop (b.length - 16) then 0 else 25 else 2 else 1
def opeV (k : List UInt8) (nonce : Int) (b : List UInt8) : List UInt8 := if opeE k nonce b = 0 then strS (key0 k) nonce (b.take (b.length - 16)) else []
def rol32_P (_ : UInt32) (k : Int) : Bool := k == 7 || k == 8 || k == 12 || k == 16
def rol32_r (x : UInt32) (k : Int) : UInt32 := rolW x k.toNat
def cFirst_P (_ : List UInt8) (nonce _ : Int) : Bool := inR nonce
def cFirst_r (key : List UInt8) (nonce counter : Int) : List UInt32 := iniW key nonce counter
def cBlk_P (_ : List UInt8) (nonce _ : Int) : Bool := inR nonce
def cBlk_r (key : List UInt8) (nonce counter : Int) : List UInt8 := blkS key nonce counter
def cRange_r (nonce : Int) : Bool := inR nonce
def cStream_P (_ : List UInt8) (_ : Int) (_ : List UInt8) : Bool := true
def cStream_r0 (key : List UInt8) (nonce : Int) (b : List UInt8) : List UInt8 := strV key nonce b
def cStream_r1 (_ : List UInt8) (nonce : Int) (b : List UInt8) : Int := strE nonce b
def cKeys_P (k : List UInt8) : Bool := decide (k.length ≤ 1000000000)
def cKeys_r0 (k : List UInt8) : List UInt8 := key0 k
def cKeys_r1 (k : List UInt8) : List UInt8 := key1 k
def cTag_P (key : List UInt8) (nonce : Int) (b : List UInt8) : Bool := inR nonce && decide (key.length = 32 ∧ b.length ≤ 10000000)
def cTag_r (key : List UInt8) (nonce : Int) (b : List UInt8) : List UInt8 := tagS key nonce b
def cUsable_r (k : List UInt8) : Bool := useK k
def cSeal_P (_ : List UInt8) (_ : Int) (_ : List UInt8) : Bool := true
def cSeal_r0 (k : List UInt8) (nonce : Int) (b : List UInt8) : List UInt8 := seaV k nonce b
def cSeal_r1 (k : List UInt8) (nonce : Int) (b : List UInt8) : Int := seaE k nonce b
def cOpen_P (_ : List UInt8) (_ : Int) (_ : List UInt8) : Bool := true
def cOpen_r0 (k : List UInt8) (nonce : Int) (b : List UInt8) : List UInt8 := opeV k nonce b
def cOpen_r1 (k : List UInt8) (nonce : Int) (b : List UInt8) : Int := opeE k nonce b
def equal_byte_P (a b : List UInt8) : Bool := decide (a.length ≤ 1000000000000 ∧ b.length ≤ 1000000000000)
def equal_byte_r (a b : List UInt8) : Bool := a == b
end Go.AI
namespace Go.AI
open Go
abbrev LogT := Int × (Int × (Int × Unit))
abbrev Bys := List UInt8
def log0 : LogT := (0, (0, (0, ())))
def sh1 (r : Nat) : Nat := if r % 2 = 1 then (r / 2) ^^^ 3988292384 else r / 2
def sh8 (r : Nat) : Nat := sh1 (sh1 (sh1 (sh1 (sh1 (sh1 (sh1 (sh1 r)))))))
def regN (r : Nat) (b : UInt8) : Nat := sh8 (r ^^^ b.toNat)
def crcG (r : Nat) (b : Bys) : Nat := b.foldl regN r
def crcN (b : Bys) : Nat := crcG 4294967295 b ^^^ 4294967295
def shifted_P (_ : UInt32) : Bool := true
def shifted_r (r : UInt32) : UInt32 := UInt32.ofNat (sh8 r.toNat)
def ctable_P : Bool := true
def ctable_r : List UInt32 := (List.range 256).map fun i => UInt32.ofNat (sh8 i)
def cUpd_P (_ : UInt32) (b : Bys) : Bool := decide (b.length ≤ 1000000000)
def cUpd_r (s : UInt32) (b : Bys) : UInt32 := UInt32.ofNat (crcG (s.toNat ^^^ 4294967295) b ^^^ 4294967295)
def cSum_P (b : Bys) : Bool := decide (b.length ≤ 1000000000)
def cSum_r (b : Bys) : UInt32 := UInt32.ofNat (crcN b)
def be : Nat → Nat → Bys
 | 0, _ => []
 | k + 1, n => UInt8.ofNat (n / 256 ^ k) :: be k n
def beV (l : Bys) : Nat := l.foldl (fun n b => 256 * n + b.toNat) 0
def fld (p : Page) (a n : Nat) : Nat := beV ((p.drop a).take n)
def needN (n : Nat) : Nat := (n + 14) / 15
def needed_P (n : Int) : Bool := decide (0 ≤ n ∧ n ≤ 1000000000000)
def needed_r (n : Int) : Int := ((needN n.toNat : Nat) : Int)
def pagesI (n : Int) : Int := if 0 ≤ n ∧ n ≤ 65536 then ((needN n.toNat + 1 : Nat) : Int) else 0
def lPages_P (_ : Int) : Bool := true
def lPages_r (n : Int) : Int := pagesI n
def chkL (l : LogT) : Int := if l.2.2.1 < 2 ∨ l.2.2.1 > 8192 ∨ l.1 < 1 ∨ l.1 > l.2.2.1 then 2 else if l.2.1 < 0 ∨ l.2.1 ≥ l.1 then 3 else 0
def lCheck_r (l : LogT) : Int := chkL l
def headP : Page := [3, 99, 111, 109, 112, 97, 99, 116, 111, 114, 32, 108, 111, 103, 32, 49]
def lHead_P : Bool := true
def lHead_r : Page := headP
def lValue_P (l : Bys) : Bool := decide (l.length ≤ 7)
def lValue_r (l : Bys) : Int := ((beV l : Nat) : Int)
def comP (b : Bys) (c : Nat) : Page := 2 :: (be 4 c ++ (be 3 (needN b.length) ++ (be 4 b.length ++ be 4 (crcN b))))
def lEnd_P (b : Bys) (c : Int) : Bool := decide (b.length ≤ 1000000000 ∧ 0 ≤ c ∧ c ≤ 1000000000)
def lEnd_r (b : Bys) (c : Int) : Page := comP b c.toNat
def putP (p : Page) (a n v : Nat) : Page := p.take a ++ (be n v ++ p.drop (a + n))
def datN : Nat → Bys → List Page
 | 0, _ => []
 | k + 1, b => (1 :: (b.take 15 ++ List.replicate (15 - (b.take 15).length) 0)) :: datN k (b.drop 15)
def dataPs (b : Bys) : List Page := datN (needN b.length) b
def wrO (a : Int) (ps : List Page) : DOp := (0, (a, (ps, ())))
def syO : DOp := (1, (0, ([], ())))
def lWrite_P (_ : Int) (_ : List Page) : Bool := true
def lWrite_r (a : Int) (ps : List Page) : DOp := wrO a ps
def lSync_P : Bool := true
def lSync_r : DOp := syO
def fmtO (n : Int) : List DOp := if 2 ≤ n ∧ n ≤ 8192 then [wrO 0 (List.replicate n.toNat z16), syO, wrO 0 [headP], syO] else []
def fmtL (n : Int) : LogT := if 2 ≤ n ∧ n ≤ 8192 then (1, (0, (n, ()))) else log0
def fmtE (n : Int) : Int := if 2 ≤ n ∧ n ≤ 8192 then 0 else 2
def lFormat_P (_ : Int) : Bool := true
def lFormat_r0 (n : Int) : LogT := fmtL n
def lFormat_r1 (n : Int) : List DOp := fmtO n
def lFormat_r2 (n : Int) : Int := fmtE n
def appE (l : LogT) (b : Bys) : Int := if chkL l = 0 then (if b.length > 65536 then 5 else if l.2.2.1 - l.1 < needN b.length + 1 then 11 else 0) else chkL l
def appK (l : LogT) (b : Bys) : List DOp := (if b = [] then [] else [wrO l.1 (dataPs b), syO]) ++ [wrO (l.1 + needN b.length) [comP b (l.2.1 + 1).toNat], syO]
def appO (l : LogT) (b : Bys) : List DOp := if appE l b = 0 then appK l b else []
def nextL (l : LogT) (b : Bys) : LogT := (l.1 + needN b.length + 1, (l.2.1 + 1, (l.2.2.1, ())))
def appL (l : LogT) (b : Bys) : LogT := if appE l b = 0 then nextL l b else log0
def lAppend_P (_ : LogT) (_ : Bys) : Bool := true
def lAppend_r0 (l : LogT) (b : Bys) : LogT := appL l b
def lAppend_r1 (l : LogT) (b : Bys) : List DOp := appO l b
def lAppend_r2 (l : LogT) (b : Bys) : Int := appE l b
def isDat (p : Page) : Bool := decide ((p.getD 0 0).toNat = 1)
def payOf (ps : List Page) : Bys := ps.flatMap fun p => (p.drop 1).take 15
def cfB_P (b : Bys) (_ : Nat) : Bool := decide (b.length ≤ 1000000000)
def nonZero (b : Bys) : Bool := b.any fun x => decide (x.toNat ≠ 0)
def cfB_r (b : Bys) (_ : Nat) : Bool := nonZero b
def okCom (p : Page) (num : Int) (k : Nat) (pay : Bys) : Bool :=
 decide ((p.getD 0 0).toNat = 2 ∧ (fld p 1 4 : Int) = num ∧ fld p 5 3 = k ∧ fld p 8 4 ≤ 65536 ∧ needN (fld p 8 4) = k) && (!nonZero (pay.drop (fld p 8 4)) && decide (fld p 12 4 = crcN (pay.take (fld p 8 4))))
def readP (l : List Page) (num : Int) : Option (Bys × List Page) :=
 match l.dropWhile isDat with
 | [] => none
 | p :: r => if okCom p num (l.takeWhile isDat).length (payOf (l.takeWhile isDat)) then some ((payOf (l.takeWhile isDat)).take (fld p 8 4), r) else none
def scanF : Nat → List Page → Int → List Bys × List Page
 | 0, l, _ => ([], l)
 | n + 1, l, num => match readP l num with
  | none => ([], l)
  | some (b, r) => (b :: (scanF n r (num + 1)).1, (scanF n r (num + 1)).2)
def scanP (l : List Page) (first : Int) : List Bys × List Page := if 1 ≤ first ∧ first ≤ 8192 then scanF l.length l first else ([], l)
def pg16 (l : List Page) : Bool := l.all fun p => decide (p.length = 16)
def lScan_P (l : List Page) (_ : Int) : Bool := decide (l.length ≤ 1000000) && pg16 l
def lScan_r0 (l : List Page) (first : Int) : List Bys := (scanP l first).1
def lScan_r1 (l : List Page) (first : Int) : Int := (l.length : Int) - ((scanP l first).2.length : Int)
def opE (d : DK) : Int := if chkD d = 0 then (if d.1.length < 2 then 2 else if (conS d).getD 0 z16 = headP then 0 else 3) else chkD d
def opL (d : DK) : LogT := if opE d = 0 then (1 + lScan_r1 (conS d).tail 1, (((scanP (conS d).tail 1).1.length : Int), ((d.1.length : Int), ()))) else log0
def opB (d : DK) : List Bys := if opE d = 0 then (scanP (conS d).tail 1).1 else []
def dk16 (d : DK) : Bool := pg16 d.1 && d.2.1.all fun p => decide (p.2.1.length = 16)
def lOpen_P (d : DK) : Bool := smallD d && dk16 d
def lOpen_r0 (d : DK) : LogT := opL d
def lOpen_r1 (d : DK) : List Bys := opB d
def lOpen_r2 (d : DK) : Int := opE d
end Go.AI
namespace Go.AI
open Go
abbrev Rec := Int × (List UInt8 × Unit)
def chkOne (r : Rec) : Int := if 1 ≤ r.1 ∧ r.1 ≤ 4 then (if r.2.1.length > 65536 then 5 else 0) else 1
def chkG : List Rec → Int
 | [] => 0
 | r :: l => if chkOne r = 0 then chkG l else chkOne r
def chkR (l : List Rec) : Int := if l.length > 1024 then 6 else chkG l
def encR1 (r : Rec) : List UInt8 := encN (numOf r.1) ++ (encN (numOf r.2.1.length) ++ r.2.1)
def encR (l : List Rec) : List UInt8 := encN (numOf l.length) ++ l.flatMap encR1
def encE (l : List Rec) : Int := if chkR l = 0 then (if (encR l).length > 65536 then 5 else 0) else chkR l
def encV (l : List Rec) : List UInt8 := if encE l = 0 then encR l else []
def decG : Nat → List UInt8 → List Rec → List Rec × Int
 | 0, b, out => if b.length = 0 then (out, 0) else ([], 3)
 | n + 1, b, out => if (readN b).2.2 ≠ 0 then ([], (readN b).2.2) else if 1 ≤ (readN b).1 ∧ (readN b).1 ≤ 4 then
   (if (readBytes (readN b).2.1).2.2 ≠ 0 then ([], (readBytes (readN b).2.1).2.2) else decG n (readBytes (readN b).2.1).2.1 (out ++ [((readN b).1, ((readBytes (readN b).2.1).1, ()))]))
  else ([], 1)
def decR (b : List UInt8) : List Rec × Int :=
 if b.length > 65536 then ([], 5) else if (readN b).2.2 ≠ 0 then ([], (readN b).2.2) else if (readN b).1 > 1024 then ([], 6) else decG (readN b).1.toNat (readN b).2.1 []
def tCheck_P (_ : List Rec) : Bool := true
def tCheck_r (l : List Rec) : Int := chkR l
def tputI_P (b : List UInt8) (_ : Nat) (x : Int) : Bool := wire_PutInt_P b x
def tputI_r (b : List UInt8) (_ : Nat) (x : Int) : List UInt8 := wire_PutInt_r b x
def tputB_P (b : List UInt8) (_ : Nat) (x : List UInt8) : Bool := wire_PutBytes_P b x
def tputB_r (b : List UInt8) (_ : Nat) (x : List UInt8) : List UInt8 := wire_PutBytes_r b x
def tEncode_P (_ : List Rec) : Bool := true
def tEncode_r0 (l : List Rec) : List UInt8 := encV l
def tEncode_r1 (l : List Rec) : Int := encE l
def tDecode_P (_ : List UInt8) : Bool := true
def tDecode_r0 (b : List UInt8) : List Rec := (decR b).1
def tDecode_r1 (b : List UInt8) : Int := (decR b).2
def fewR (l : List Rec) : Bool := l.all (fun r => decide (r.2.1.length ≤ 300)) && decide (l.length ≤ 60)
def uFew_P (_ : List Rec) : Bool := true
def uFew_r (l : List Rec) : Bool := fewR l
def samP (l : List Rec) : Bool := decide (l.length ≤ 1000000000000)
def uSame_P (a b : List Rec) : Bool := samP a && samP b
def uSame_r (a b : List Rec) : Bool := decide (a = b)
def samA (l : List (List Rec)) : Bool := decide (l.length ≤ 1000000000000) && l.all samP
def uSameAll_P (a b : List (List Rec)) : Bool := samA a && samA b
def uSameAll_r (a b : List (List Rec)) : Bool := decide (a = b)
end Go.AI
namespace Go.AI
open Go
def payE (key : Bys) (c : Int) (l : List Rec) : Int := if encE l = 0 then (if key = [] then 0 else seaE key c (encR l)) else encE l
def payV (key : Bys) (c : Int) (l : List Rec) : Bys := if key = [] then encR l else seaV key c (encR l)
def comE (l : LogT) (key : Bys) (recs : List Rec) : Int := if chkL l = 0 then (if payE key (l.2.1 + 1) recs = 0 then appE l (payV key (l.2.1 + 1) recs) else payE key (l.2.1 + 1) recs) else chkL l
def comL (l : LogT) (key : Bys) (recs : List Rec) : LogT := if chkL l = 0 ∧ payE key (l.2.1 + 1) recs = 0 then appL l (payV key (l.2.1 + 1) recs) else log0
def comO (l : LogT) (key : Bys) (recs : List Rec) : List DOp := if chkL l = 0 ∧ payE key (l.2.1 + 1) recs = 0 then appO l (payV key (l.2.1 + 1) recs) else []
def tCommit_P (_ : LogT) (_ : Bys) (_ : List Rec) : Bool := true
def tCommit_r0 (l : LogT) (key : Bys) (recs : List Rec) : LogT := comL l key recs
def tCommit_r1 (l : LogT) (key : Bys) (recs : List Rec) : List DOp := comO l key recs
def tCommit_r2 (l : LogT) (key : Bys) (recs : List Rec) : Int := comE l key recs
def unB (key : Bys) (i : Int) (b : Bys) : List Rec × Int := if key = [] then decR b else if opeE key i b = 0 then decR (opeV key i b) else ([], opeE key i b)
def repG (key : Bys) : Int → List Bys → List (List Rec) → List (List Rec) × Int
 | _, [], out => (out, 0)
 | i, b :: bs, out => if (unB key i b).2 = 0 then repG key (i + 1) bs (out ++ [(unB key i b).1]) else ([], (unB key i b).2)
def repE (d : DK) (key : Bys) : Int := if opE d = 0 then (if key.length > 64 then 1 else (repG key 1 (opB d) []).2) else opE d
def repV (d : DK) (key : Bys) : List (List Rec) := if repE d key = 0 then (repG key 1 (opB d) []).1 else []
def repL (d : DK) (key : Bys) : LogT := if repE d key = 0 then opL d else log0
def tReplay_P (d : DK) (_ : Bys) : Bool := lOpen_P d
def tReplay_r0 (d : DK) (key : Bys) : LogT := repL d key
def tReplay_r1 (d : DK) (key : Bys) : List (List Rec) := repV d key
def tReplay_r2 (d : DK) (key : Bys) : Int := repE d key
def begT (n : Nat) : DK := (headP :: List.replicate (n - 1) z16, ([], ()))
end Go.AI
namespace Go.AI
open Go
def pmG (key : Bys) : List (List Rec) → DK × (LogT × List (List Rec)) → DK × (LogT × List (List Rec))
 | [], x => x
 | r :: l, x => if comE x.2.1 key r = 0 then pmG key l ((runD x.1 (comO x.2.1 key r)).1, (comL x.2.1 key r, x.2.2 ++ [r])) else pmG key l x
def pmS (key : Bys) (l : List (List Rec)) : DK × (LogT × List (List Rec)) := pmG key l (begT 300, ((1, (0, (300, ()))), []))
def pCommitted_P (_ : Bys) (l : List (List Rec)) : Bool := decide (l.length ≤ 1000)
def pCommitted_r0 (key : Bys) (l : List (List Rec)) : DK := (pmS key l).1
def pCommitted_r1 (key : Bys) (l : List (List Rec)) : List (List Rec) := (pmS key l).2.2
def pCommitted_r2 (_ : Bys) (_ : List (List Rec)) : Bool := true
def pFew_P (_ : List (List Rec)) : Bool := true
def pFew_r (l : List (List Rec)) : Bool := l.all fewR && decide (l.length ≤ 6)
end Go.AI
namespace Go.AI
open Go
abbrev TcT := List Rec × (Bool × (UInt8 × Unit))
abbrev TlT := DK × (LogT × (List (List Rec) × Unit))
def hOps (s : TlT) (key : Bys) (x : TcT) : List DOp := comO s.2.1 key x.1
def hK (s : TlT) (key : Bys) (x : TcT) : Int := remI (cvBI x.2.2.1) (addI (((hOps s key x).length : Nat) : Int) 1)
def hI (s : TlT) (key : Bys) (x : TcT) (ch : List Int) : DK × (List Int × Int) := intD s.1 (hOps s key x) (hK s key x) ch
def hC (s : TlT) (key : Bys) (x : TcT) (ch : List Int) : TlT × (List Int × Bool) :=
 if comE s.2.1 key x.1 ≠ 0 then (s, (ch, decide (comE s.2.1 key x.1 = 11)))
 else if x.2.1 = false then (((runD s.1 (hOps s key x)).1, (comL s.2.1 key x.1, (s.2.2.1 ++ [x.1], ()))), (ch, decide ((runD s.1 (hOps s key x)).2.2 = 0)))
 else if (hI s key x ch).2.2 ≠ 0 ∨ repE (hI s key x ch).1 key ≠ 0 then (s, ((hI s key x ch).2.1, false))
 else if repV (hI s key x ch).1 key = s.2.2.1 ++ [x.1] ∧ hK s key x > 0 ∧ repL (hI s key x ch).1 key = comL s.2.1 key x.1 then (((hI s key x ch).1, (repL (hI s key x ch).1 key, (s.2.2.1 ++ [x.1], ()))), ((hI s key x ch).2.1, true))
 else (((hI s key x ch).1, (repL (hI s key x ch).1 key, (s.2.2.1, ()))), ((hI s key x ch).2.1, decide (repV (hI s key x ch).1 key = s.2.2.1 ∧ hK s key x < (hOps s key x).length ∧ repL (hI s key x ch).1 key = s.2.1)))
end Go.AI
