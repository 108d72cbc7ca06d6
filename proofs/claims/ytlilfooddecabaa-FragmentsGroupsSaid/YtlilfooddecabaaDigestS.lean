/- What the functions of digest and of its reference answer. -/
import Derived.Test.YtlilfooddecabaaA5
namespace Go.AI
open Go

def ror (x : UInt32) (n : Int) : UInt32 := orW (shrW x n) (shlW x (subI 32 n))
def bs0 (a : UInt32) : UInt32 := xorW (xorW (ror a 2) (ror a 13)) (ror a 22)
def bs1 (e : UInt32) : UInt32 := xorW (xorW (ror e 6) (ror e 11)) (ror e 25)
def ss0 (x : UInt32) : UInt32 := xorW (xorW (ror x 7) (ror x 18)) (shrW x 3)
def ss1 (x : UInt32) : UInt32 := xorW (xorW (ror x 17) (ror x 19)) (shrW x 10)
def chW (e f g : UInt32) : UInt32 := xorW (andW e f) (andW (notW e) g)
def maW (a b c : UInt32) : UInt32 := xorW (xorW (andW a b) (andW a c)) (andW b c)
/-- Word t of a block, for t < 16. -/
def wdAt (b : List UInt8) (t : Nat) : UInt32 :=
  orW (shlW (orW (shlW (orW (shlW (orW (shlW 0 8) (cvBW (b.getD (4 * t) 0))) 8) (cvBW (b.getD (4 * t + 1) 0))) 8) (cvBW (b.getD (4 * t + 2) 0))) 8) (cvBW (b.getD (4 * t + 3) 0))
def nextW (w : List UInt32) : List UInt32 := w.tail ++ [addW (addW (addW (w.getD 0 0) (ss0 (w.getD 1 0))) (w.getD 9 0)) (ss1 (w.getD 14 0))]
/-- The words t to t + 15 of a block's schedule. -/
def win (b : List UInt8) : Nat → List UInt32
  | 0 => (List.range 16).map (wdAt b)
  | t + 1 => nextW (win b t)
def wd (b : List UInt8) (t : Nat) : UInt32 := (win b t).getD 0 0
def n8 (s : List UInt32) : List UInt32 := [s.getD 0 0, s.getD 1 0, s.getD 2 0, s.getD 3 0, s.getD 4 0, s.getD 5 0, s.getD 6 0, s.getD 7 0]
def rnd (k w : UInt32) (x : List UInt32) : List UInt32 :=
  let t1 := addW (addW (addW (addW (x.getD 7 0) (bs1 (x.getD 4 0))) (chW (x.getD 4 0) (x.getD 5 0) (x.getD 6 0))) k) w
  let t2 := addW (bs0 (x.getD 0 0)) (maW (x.getD 0 0) (x.getD 1 0) (x.getD 2 0))
  [addW t1 t2, x.getD 0 0, x.getD 1 0, x.getD 2 0, addW (x.getD 3 0) t1, x.getD 4 0, x.getD 5 0, x.getD 6 0]
def kN : List Nat := [1116352408, 1899447441, 3049323471, 3921009573, 961987163, 1508970993, 2453635748, 2870763221, 3624381080, 310598401, 607225278, 1426881987, 1925078388, 2162078206, 2614888103, 3248222580, 3835390401, 4022224774, 264347078, 604807628, 770255983, 1249150122, 1555081692, 1996064986, 2554220882, 2821834349, 2952996808, 3210313671, 3336571891, 3584528711, 113926993, 338241895, 666307205, 773529912, 1294757372, 1396182291, 1695183700, 1986661051, 2177026350, 2456956037, 2730485921, 2820302411, 3259730800, 3345764771, 3516065817, 3600352804, 4094571909, 275423344, 430227734, 506948616, 659060556, 883997877, 958139571, 1322822218, 1537002063, 1747873779, 1955562222, 2024104815, 2227730452, 2361852424, 2428436474, 2756734187, 3204031479, 3329325298]
def kW : List UInt32 := [1116352408, 1899447441, 3049323471, 3921009573, 961987163, 1508970993, 2453635748, 2870763221, 3624381080, 310598401, 607225278, 1426881987, 1925078388, 2162078206, 2614888103, 3248222580, 3835390401, 4022224774, 264347078, 604807628, 770255983, 1249150122, 1555081692, 1996064986, 2554220882, 2821834349, 2952996808, 3210313671, 3336571891, 3584528711, 113926993, 338241895, 666307205, 773529912, 1294757372, 1396182291, 1695183700, 1986661051, 2177026350, 2456956037, 2730485921, 2820302411, 3259730800, 3345764771, 3516065817, 3600352804, 4094571909, 275423344, 430227734, 506948616, 659060556, 883997877, 958139571, 1322822218, 1537002063, 1747873779, 1955562222, 2024104815, 2227730452, 2361852424, 2428436474, 2756734187, 3204031479, 3329325298]
/-- The state behind t rounds. -/
def rds (b : List UInt8) (s : List UInt32) : Nat → List UInt32
  | 0 => n8 s
  | t + 1 => rnd (kW.getD t 0) (wd b t) (rds b s t)
def add8 (x s : List UInt32) : List UInt32 := [addW (x.getD 0 0) (s.getD 0 0), addW (x.getD 1 0) (s.getD 1 0), addW (x.getD 2 0) (s.getD 2 0), addW (x.getD 3 0) (s.getD 3 0), addW (x.getD 4 0) (s.getD 4 0), addW (x.getD 5 0) (s.getD 5 0), addW (x.getD 6 0) (s.getD 6 0), addW (x.getD 7 0) (s.getD 7 0)]
def absW (s : List UInt32) (b : List UInt8) : List UInt32 := add8 (rds b s 64) s

/- The same with natural numbers, made to be reckoned. -/
def M32 : Nat := 4294967296
def rorN (x n : Nat) : Nat := (x >>> n) ||| ((x <<< (32 - n)) % 4294967296)
def bs0N (a : Nat) : Nat := rorN a 2 ^^^ rorN a 13 ^^^ rorN a 22
def bs1N (e : Nat) : Nat := rorN e 6 ^^^ rorN e 11 ^^^ rorN e 25
def ss0N (x : Nat) : Nat := rorN x 7 ^^^ rorN x 18 ^^^ (x >>> 3)
def ss1N (x : Nat) : Nat := rorN x 17 ^^^ rorN x 19 ^^^ (x >>> 10)
def chN (e f g : Nat) : Nat := (e &&& f) ^^^ ((4294967295 - e) &&& g)
def maN (a b c : Nat) : Nat := (a &&& b) ^^^ (a &&& c) ^^^ (b &&& c)
def wdN (b : List Nat) (t : Nat) : Nat := b.getD (4 * t) 0 * 16777216 + b.getD (4 * t + 1) 0 * 65536 + b.getD (4 * t + 2) 0 * 256 + b.getD (4 * t + 3) 0
def nextN (w : List Nat) : List Nat := w.tail ++ [(w.getD 0 0 + ss0N (w.getD 1 0) + w.getD 9 0 + ss1N (w.getD 14 0)) % 4294967296]
def rdsN : List Nat → List Nat → Nat → Nat → Nat → Nat → Nat → Nat → Nat → Nat → List Nat
  | [], _, a, b, c, d, e, f, g, h => [a, b, c, d, e, f, g, h]
  | k :: ks, w, a, b, c, d, e, f, g, h =>
    let t1 := h + bs1N e + chN e f g + k + w.getD 0 0
    rdsN ks (nextN w) ((t1 + (bs0N a + maN a b c)) % 4294967296) a b c ((d + t1) % 4294967296) e f g
/-- The state behind a block. -/
def absS (s : List UInt32) (b : List UInt8) : List UInt32 :=
  let n := s.map UInt32.toNat
  let x := rdsN kN ((List.range 16).map (wdN (b.map UInt8.toNat))) (n.getD 0 0) (n.getD 1 0) (n.getD 2 0) (n.getD 3 0) (n.getD 4 0) (n.getD 5 0) (n.getD 6 0) (n.getD 7 0)
  [UInt32.ofNat (x.getD 0 0 + n.getD 0 0), UInt32.ofNat (x.getD 1 0 + n.getD 1 0), UInt32.ofNat (x.getD 2 0 + n.getD 2 0), UInt32.ofNat (x.getD 3 0 + n.getD 3 0), UInt32.ofNat (x.getD 4 0 + n.getD 4 0), UInt32.ofNat (x.getD 5 0 + n.getD 5 0), UInt32.ofNat (x.getD 6 0 + n.getD 6 0), UInt32.ofNat (x.getD 7 0 + n.getD 7 0)]
/-- The state behind n blocks. -/
def absN : Nat → List UInt32 → List UInt8 → List UInt32
  | 0, s, _ => s
  | n + 1, s, l => absN n (absS s (l.take 64)) (l.drop 64)
abbrev HH := List UInt32 × List UInt8 × Int × Unit
def wrH (h : HH) (b : List UInt8) : HH := let l := h.2.1 ++ b; (absN (l.length / 64) h.1 l, l.drop (64 * (l.length / 64)), h.2.2.1 + b.length, ())
def newH : HH := ([1779033703, 3144134277, 1013904242, 2773480762, 1359893119, 2600822924, 528734635, 1541459225], [], 0, ())
def zeroH : HH := ([0, 0, 0, 0, 0, 0, 0, 0], [], 0, ())
def chkH (h : HH) : Int := if h.2.2.1 < 0 ∨ 9007199254740991 < h.2.2.1 ∨ (h.2.1.length : Int) ≠ h.2.2.1 % 64 then 3 else 0
/-- The lowest 8 bytes of a number, the highest one first. -/
def be8 (n : Nat) : List UInt8 := (List.range 8).map fun i => UInt8.ofNat (n / 2 ^ (56 - 8 * i) % 256)
def padH (h : HH) : List UInt8 := 128 :: (List.replicate ((119 - h.2.1.length) % 64) 0 ++ be8 (8 * h.2.2.1.toNat))
def outH (s : List UInt32) : List UInt8 := (List.range 32).map fun i => cvWB (shrW (s.getD (i / 4) 0) (24 - 8 * (i % 4 : Nat)))
def finH (h : HH) : List UInt8 := outH (wrH h (padH h)).1
def sumH (b : List UInt8) : List UInt8 := finH (wrH newH b)
def okH (h : HH) : Bool := decide (h.1.length = 8 ∧ h.2.1.length ≤ 1000 ∧ 0 ≤ h.2.2.1 ∧ h.2.2.1 ≤ 1152921504606846976)
def keyH (k : List UInt8) (x : UInt8) : List UInt8 := let l := (if k.length > 64 then sumH k else k); (l ++ List.replicate (64 - l.length) 0).map fun b => xorB b x
def macH (k b : List UInt8) : List UInt8 := sumH (keyH k 92 ++ sumH (keyH k 54 ++ b))
def xorL (a b : List UInt8) : List UInt8 := List.zipWith xorB a b
/-- So many rounds of Derive. -/
def derH (p : List UInt8) : Nat → List UInt8 → List UInt8 → List UInt8
  | 0, _, o => o
  | n + 1, l, o => derH p n (macH p l) (xorL o (macH p l))
def derE (p s : List UInt8) (n : Int) : Int := if (p.length : Int) > 65536 ∨ (s.length : Int) > 65536 then 5 else if n < 1 ∨ n > 1024 then 2 else 0
def derV (p s : List UInt8) (n : Int) : List UInt8 := if derE p s n = 0 then derH p n.toNat (s ++ [0, 0, 0, 1]) (List.replicate 32 0) else List.replicate 32 0
def hexD (n : UInt8) : UInt8 := if n < 10 then 48 + n else 87 + n
def hexS (d : List UInt8) : List UInt8 := (List.range 32).flatMap fun i => [hexD (d.getD i 0 / 16), hexD (d.getD i 0 % 16)]
def hexV (c : UInt8) : Option UInt8 := if 48 ≤ c ∧ c ≤ 57 then some (c - 48) else if 97 ≤ c ∧ c ≤ 102 then some (c - 87) else none
def parG (s : List UInt8) : Bool := decide (s.length = 64) && s.all fun c => (hexV c).isSome
def parV (s : List UInt8) : List UInt8 := if parG s then (List.range 32).map (fun i => 16 * (hexV (s.getD (2 * i) 0)).getD 0 + (hexV (s.getD (2 * i + 1) 0)).getD 0) else List.replicate 32 0
def parE (s : List UInt8) : Int := if parG s then 0 else 4

def rotr_P (_ : UInt32) (n : Int) : Bool := decide (0 ≤ n ∧ n ≤ 32)
def rotr_r (x : UInt32) (n : Int) : UInt32 := ror x n
def shr_P (_ : UInt32) (n : Int) : Bool := decide (0 ≤ n)
def shr_r (x : UInt32) (n : Int) : UInt32 := shrW x n
def three_P (_ : UInt32) (a b c : Int) (l : Nat) : Bool := decide (0 ≤ a ∧ a ≤ 32 ∧ 0 ≤ b ∧ b ≤ 32 ∧ 0 ≤ c ∧ c ≤ 32) && (l == 57 || l == 63)
def three_r (x : UInt32) (a b c : Int) (l : Nat) : UInt32 := xorW (xorW (ror x a) (ror x b)) (bif l == 57 then ror x c else shrW x c)
def consts_P : Bool := true
def consts_r : List UInt32 := kW
def absorb_P (s : List UInt32) (b : List UInt8) : Bool := decide (s.length = 8 ∧ 64 ≤ b.length)
def absorb_r (s : List UInt32) (b : List UInt8) : List UInt32 := absS s (b.take 64)
def hNew_P : Bool := true
def hNew_r : HH := newH
def hCheck_r (h : HH) : Int := chkH h
def hwrite_P (h : HH) (b : List UInt8) : Bool := okH h && decide (b.length ≤ 1000000000)
def hwrite_r (h : HH) (b : List UInt8) : HH := wrH h b
def hfinish_P (h : HH) : Bool := okH h && decide (h.2.1.length < 64)
def hfinish_r (h : HH) : List UInt8 := finH h
def dSum_P (b : List UInt8) : Bool := decide (b.length ≤ 1000000000)
def dSum_r (b : List UInt8) : List UInt8 := sumH b
def padded_P (k : List UInt8) (_ : UInt8) : Bool := decide (k.length ≤ 1000000000)
def padded_r (k : List UInt8) (x : UInt8) : List UInt8 := keyH k x
def dMac_P (k b : List UInt8) : Bool := decide (k.length ≤ 1000000000 ∧ b.length ≤ 100000000)
def dMac_r (k b : List UInt8) : List UInt8 := macH k b
def dDerive_P (p s : List UInt8) (_ : Int) : Bool := decide (p.length ≤ 1000000000 ∧ s.length ≤ 1000000000)
def dDerive_r0 (p s : List UInt8) (n : Int) : List UInt8 := derV p s n
def dDerive_r1 (p s : List UInt8) (n : Int) : Int := derE p s n
def dHex_P (_ : List UInt8) : Bool := true
def dHex_r (d : List UInt8) : List UInt8 := hexS d
def value_r0 (c : UInt8) : UInt8 := (hexV c).getD 0
def value_r1 (c : UInt8) : Bool := (hexV c).isSome
def dParse_P (_ : List UInt8) : Bool := true
def dParse_r0 (s : List UInt8) : List UInt8 := parV s
def dParse_r1 (s : List UInt8) : Int := parE s
def wrE (h : HH) (b : List UInt8) : Int := if chkH h ≠ 0 then 3 else if (b.length : Int) > 65536 then 5 else if h.2.2.1 > 9007199254740991 - b.length then 2 else 0
def hWrite_P (h : HH) (_ : List UInt8) : Bool := decide (h.1.length = 8)
def hWrite_r0 (h : HH) (b : List UInt8) : HH := if wrE h b = 0 then wrH h b else zeroH
def hWrite_r1 (h : HH) (b : List UInt8) : Int := wrE h b
def hFinish_P (h : HH) : Bool := decide (h.1.length = 8)
def hFinish_r0 (h : HH) : List UInt8 := if chkH h = 0 then finH h else List.replicate 32 0
def hFinish_r1 (h : HH) : Int := chkH h
def rconsts_P : Bool := true
def rconsts_r : List UInt32 := kW
def rrotr_P (_ : UInt32) (n : Int) : Bool := decide (0 ≤ n ∧ n ≤ 32)
def rrotr_r (x : UInt32) (n : Int) : UInt32 := ror x n
def rsched_P (b : List UInt8) : Bool := decide (64 ≤ b.length)
def rsched_r (b : List UInt8) : List UInt32 := (List.range 64).map (wd b)
def rAbsorb_P (s : List UInt32) (b : List UInt8) : Bool := decide (s.length = 8 ∧ 64 ≤ b.length)
def rAbsorb_r (s : List UInt32) (b : List UInt8) : List UInt32 := absS s (b.take 64)
def rNew_P : Bool := true
def rNew_r : HH := newH
def rCheck_r (h : HH) : Int := chkH h
def rabsorb_P (h : HH) (b : List UInt8) : Bool := okH h && decide (b.length ≤ 1000000000)
def rabsorb_r (h : HH) (b : List UInt8) : HH := wrH h b
def rWrite_P (h : HH) (_ : List UInt8) : Bool := decide (h.1.length = 8)
def rWrite_r0 (h : HH) (b : List UInt8) : HH := if wrE h b = 0 then wrH h b else zeroH
def rWrite_r1 (h : HH) (b : List UInt8) : Int := wrE h b
def rFinish_P (h : HH) : Bool := decide (h.1.length = 8)
def rFinish_r0 (h : HH) : List UInt8 := if chkH h = 0 then finH h else List.replicate 32 0
def rFinish_r1 (h : HH) : Int := chkH h
def rSum_P (b : List UInt8) : Bool := decide (b.length ≤ 1000000000)
def rSum_r (b : List UInt8) : List UInt8 := sumH b
def rMac_P (k b : List UInt8) : Bool := decide (k.length ≤ 1000000000 ∧ b.length ≤ 100000000)
def rMac_r (k b : List UInt8) : List UInt8 := macH k b
def rDerive_P (p s : List UInt8) (_ : Int) : Bool := decide (p.length ≤ 1000000000 ∧ s.length ≤ 1000000000)
def rDerive_r0 (p s : List UInt8) (n : Int) : List UInt8 := derV p s n
def rDerive_r1 (p s : List UInt8) (n : Int) : Int := derE p s n
def digit_r (n : UInt8) : UInt8 := if n < 10 then 48 + n else 87 + n
def rHex_P (_ : List UInt8) : Bool := true
def rHex_r (d : List UInt8) : List UInt8 := hexS d
def rParse_P (_ : List UInt8) : Bool := true
def rParse_r0 (s : List UInt8) : List UInt8 := parV s
def rParse_r1 (s : List UInt8) : Int := parE s
def rSame_r (a b : HH) : Bool := decide (a.1 = b.1 ∧ a.2.1 = b.2.1 ∧ a.2.2.1 = b.2.2.1)
def law04_awake_r : Bool := true
end Go.AI
