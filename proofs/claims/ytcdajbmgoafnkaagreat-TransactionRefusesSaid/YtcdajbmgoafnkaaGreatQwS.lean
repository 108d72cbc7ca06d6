/- Texts of the proof, joined: DiskS DigestS WireS CipherS LogS TransS TransK. Names of our own are shortened by program; the long ones stand in wip/. -/
import Derived.Test.YtcdajbmgoafnkaaGreatQwA5
namespace Go.AI
abbrev ZB := List UInt8
abbrev ZW := List UInt32
abbrev ZR := (Int × ((List UInt8) × Unit))
abbrev ZD := ((List (List UInt8)) × ((List ZR) × Unit))
abbrev ZL := (Int × (Int × (Int × Unit)))
abbrev ZH := ((List UInt32) × ((List UInt8) × (Int × Unit)))
end Go.AI
namespace Go.AI
open Go
abbrev Ja7 := List UInt8
abbrev Jwi := Int × (Ja7 × Unit)
abbrev DK := List Ja7 × (List Jwi × Unit)
abbrev DOp := Int × (Int × (List Ja7 × Unit))
def dk0 : DK := ([], ([], ()))
def Kwt (s : List Ja7) (l : List Jwi) : List Ja7 := l.foldl (fun o p => o.set p.1.toNat p.2.1) s
def Jxd (d : DK) : List Ja7 := Kwt d.1 d.2.1
def okP (n : Nat) (l : List Jwi) : Bool := l.all fun p => decide (0 ≤ p.1 ∧ p.1 < (n : Int))
def okD (d : DK) : Bool := decide (1 ≤ d.1.length ∧ d.1.length ≤ 8192) && okP d.1.length d.2.1
def Kwu (d : DK) : Int := if okD d then 0 else 2
def Kfi (d : DK) (at_ n : Int) : Bool := decide (0 ≤ at_ ∧ 0 ≤ n ∧ at_ + n ≤ d.1.length)
def wrS (at_ : Int) : List Ja7 → List Jwi
 | [] => []
 | p :: l => (at_, (p, ())) :: wrS (at_ + 1) l
def Jm6 (d : DK) (op : DOp) : DK × Int :=
 if op.1 = 0 then (if Kfi d op.2.1 op.2.2.1.length then ((d.1, (d.2.1 ++ wrS op.2.1 op.2.2.1, ())), 0) else (dk0, 2))
 else if op.1 = 1 then ((Jxd d, ([], ())), 0) else (dk0, 1)
def goD (d : DK) : List DOp → Int → DK × (Int × Int)
 | [], i => (d, (i, 0))
 | op :: l, i => if (Jm6 d op).2 = 0 then goD (Jm6 d op).1 l (i + 1) else (dk0, (i, (Jm6 d op).2))
def J3l (d : DK) (l : List DOp) : DK × (Int × Int) := if okD d then goD d l 0 else (dk0, (0, 2))
def K13 (l : List DOp) : Nat := (l.map fun op => op.2.2.1.length).sum
def Jrv (d : DK) : Bool := decide (d.1.length ≤ 1000000 ∧ d.2.1.length ≤ 100000000)
def decD (ch : List Int) (n : Nat) : Int := match ch with
 | [] => 0
 | c :: _ => c % n
def Kcn : List Jwi → List Int → List Int
 | [], _ => []
 | p :: l, seen => if seen.contains p.1 then Kcn l seen else p.1 :: Kcn l (p.1 :: seen)
def Krc (d : DK) (at_ : Int) : List Ja7 := d.1.getD at_.toNat z16 :: (d.2.1.filter fun p => p.1 == at_).map fun p => p.2.1
def Kkz (d : DK) (s : List Int × List Ja7) (at_ : Int) : List Int × List Ja7 :=
 (s.1.tail, s.2.set at_.toNat ((Krc d at_).getD (decD s.1 (Krc d at_).length).toNat z16))
def Qhw (d : DK) (ch : List Int) : List Int × List Ja7 := (Kcn d.2.1 []).foldl (Kkz d) (ch, d.1)
def Kco (d : DK) (ch : List Int) : DK × (List Int × Int) := if okD d then (((Qhw d ch).2, ([], ())), ((Qhw d ch).1, 0)) else (dk0, ([], 2))
def Qe0 (d : DK) (l : List DOp) (after : Int) (ch : List Int) : DK × (List Int × Int) :=
 if okD d then (if 0 ≤ after ∧ after ≤ l.length then (if (J3l d (l.take after.toNat)).2.2 = 0 then Kco (J3l d (l.take after.toNat)).1 ch else (dk0, ([], (J3l d (l.take after.toNat)).2.2))) else (dk0, ([], 2))) else (dk0, ([], 2))
def Jkk (s : List Ja7) : Bool := decide (s.length ≤ 2000000000)
def Jtn (s : List Ja7) : List Ja7 := s
def Jx6 (s : List Jwi) : Bool := decide (s.length ≤ 2000000000)
def J4l (s : List Jwi) : List Jwi := s
def J0r (d : DK) (_ _ : Int) : Bool := Jrv d
def Jrw (d : DK) (at_ n : Int) : Bool := Kfi d at_ n
def K38 (_ : Int) : Bool := true
def Qc8 (n : Int) : DK := if 1 ≤ n ∧ n ≤ 8192 then (List.replicate n.toNat z16, ([], ())) else dk0
def newE (n : Int) : Int := if 1 ≤ n ∧ n ≤ 8192 then 0 else 2
def Jl3 (n : Int) : DK := Qc8 n
def J6l (n : Int) : Int := newE n
def Jto (d : DK) : Bool := Jrv d
def Jkl (d : DK) : Int := Kwu d
def Jhm (d : DK) : Bool := Jrv d && okP d.1.length d.2.1
def Jix (d : DK) : List Ja7 := Jxd d
def Qaw (d : DK) (at_ n : Int) : List Ja7 := if okD d && Kfi d at_ n then ((Jxd d).drop at_.toNat).take n.toNat else []
def Kzl (d : DK) (at_ n : Int) : Int := if okD d && Kfi d at_ n then 0 else 2
def Kfj (d : DK) (_ _ : Int) : Bool := Jrv d
def Jdy (d : DK) (at_ n : Int) : List Ja7 := Qaw d at_ n
def Jtp (d : DK) (at_ n : Int) : Int := Kzl d at_ n
def Qg7 (d : DK) (l : List DOp) : Bool := decide (d.1.length ≤ 1000000 ∧ d.2.1.length ≤ 10000000 ∧ l.length ≤ 1000000 ∧ K13 l ≤ 10000000)
def Kk0 (d : DK) (l : List DOp) : Bool := Qg7 d l
def Jnw (d : DK) (l : List DOp) : DK := (J3l d l).1
def Krd (d : DK) (l : List DOp) : Int := (J3l d l).2.1
def Jwj (d : DK) (l : List DOp) : Int := (J3l d l).2.2
end Go.AI
namespace Go.AI
open Go
def ror (x : UInt32) (n : Int) : UInt32 := orW (Jqx x n) (Jwh x (Jby 32 n))
def bs0 (a : UInt32) : UInt32 := Jgg (Jgg (ror a 2) (ror a 13)) (ror a 22)
def bs1 (e : UInt32) : UInt32 := Jgg (Jgg (ror e 6) (ror e 11)) (ror e 25)
def ss0 (x : UInt32) : UInt32 := Jgg (Jgg (ror x 7) (ror x 18)) (Jqx x 3)
def ss1 (x : UInt32) : UInt32 := Jgg (Jgg (ror x 17) (ror x 19)) (Jqx x 10)
def chW (e f g : UInt32) : UInt32 := Jgg (Jxc e f) (Jxc (K34 e) g)
def maW (a b c : UInt32) : UInt32 := Jgg (Jgg (Jxc a b) (Jxc a c)) (Jxc b c)
def Kwv (b : List UInt8) (t : Nat) : UInt32 :=
 orW (Jwh (orW (Jwh (orW (Jwh (orW (Jwh 0 8) (Jn1 (b.getD (4 * t) 0))) 8) (Jn1 (b.getD (4 * t + 1) 0))) 8) (Jn1 (b.getD (4 * t + 2) 0))) 8) (Jn1 (b.getD (4 * t + 3) 0))
def Kzm (w : List UInt32) : List UInt32 := w.tail ++ [Jbf (Jbf (Jbf (w.getD 0 0) (ss0 (w.getD 1 0))) (w.getD 9 0)) (ss1 (w.getD 14 0))]
def win (b : List UInt8) : Nat → List UInt32
 | 0 => (List.range 16).map (Kwv b)
 | t + 1 => Kzm (win b t)
def wd (b : List UInt8) (t : Nat) : UInt32 := (win b t).getD 0 0
def n8 (s : List UInt32) : List UInt32 := [s.getD 0 0, s.getD 1 0, s.getD 2 0, s.getD 3 0, s.getD 4 0, s.getD 5 0, s.getD 6 0, s.getD 7 0]
def rnd (k w : UInt32) (x : List UInt32) : List UInt32 :=
 let t1 := Jbf (Jbf (Jbf (Jbf (x.getD 7 0) (bs1 (x.getD 4 0))) (chW (x.getD 4 0) (x.getD 5 0) (x.getD 6 0))) k) w
 let t2 := Jbf (bs0 (x.getD 0 0)) (maW (x.getD 0 0) (x.getD 1 0) (x.getD 2 0))
 [Jbf t1 t2, x.getD 0 0, x.getD 1 0, x.getD 2 0, Jbf (x.getD 3 0) t1, x.getD 4 0, x.getD 5 0, x.getD 6 0]
def kN : List Nat := [1116352408, 1899447441, 3049323471, 3921009573, 961987163, 1508970993, 2453635748, 2870763221, 3624381080, 310598401, 607225278, 1426881987, 1925078388, 2162078206, 2614888103, 3248222580, 3835390401, 4022224774, 264347078, 604807628, 770255983, 1249150122, 1555081692, 1996064986, 2554220882, 2821834349, 2952996808, 3210313671, 3336571891, 3584528711, 113926993, 338241895, 666307205, 773529912, 1294757372, 1396182291, 1695183700, 1986661051, 2177026350, 2456956037, 2730485921, 2820302411, 3259730800, 3345764771, 3516065817, 3600352804, 4094571909, 275423344, 430227734, 506948616, 659060556, 883997877, 958139571, 1322822218, 1537002063, 1747873779, 1955562222, 2024104815, 2227730452, 2361852424, 2428436474, 2756734187, 3204031479, 3329325298]
def kW : List UInt32 := [1116352408, 1899447441, 3049323471, 3921009573, 961987163, 1508970993, 2453635748, 2870763221, 3624381080, 310598401, 607225278, 1426881987, 1925078388, 2162078206, 2614888103, 3248222580, 3835390401, 4022224774, 264347078, 604807628, 770255983, 1249150122, 1555081692, 1996064986, 2554220882, 2821834349, 2952996808, 3210313671, 3336571891, 3584528711, 113926993, 338241895, 666307205, 773529912, 1294757372, 1396182291, 1695183700, 1986661051, 2177026350, 2456956037, 2730485921, 2820302411, 3259730800, 3345764771, 3516065817, 3600352804, 4094571909, 275423344, 430227734, 506948616, 659060556, 883997877, 958139571, 1322822218, 1537002063, 1747873779, 1955562222, 2024104815, 2227730452, 2361852424, 2428436474, 2756734187, 3204031479, 3329325298]
def rds (b : List UInt8) (s : List UInt32) : Nat → List UInt32
 | 0 => n8 s
 | t + 1 => rnd (kW.getD t 0) (wd b t) (rds b s t)
def add8 (x s : List UInt32) : List UInt32 := [Jbf (x.getD 0 0) (s.getD 0 0), Jbf (x.getD 1 0) (s.getD 1 0), Jbf (x.getD 2 0) (s.getD 2 0), Jbf (x.getD 3 0) (s.getD 3 0), Jbf (x.getD 4 0) (s.getD 4 0), Jbf (x.getD 5 0) (s.getD 5 0), Jbf (x.getD 6 0) (s.getD 6 0), Jbf (x.getD 7 0) (s.getD 7 0)]
def Qe1 (s : List UInt32) (b : List UInt8) : List UInt32 := add8 (rds b s 64) s
def K14 (x n : Nat) : Nat := (x >>> n) ||| ((x <<< (32 - n)) % 4294967296)
def bs0N (a : Nat) : Nat := K14 a 2 ^^^ K14 a 13 ^^^ K14 a 22
def bs1N (e : Nat) : Nat := K14 e 6 ^^^ K14 e 11 ^^^ K14 e 25
def ss0N (x : Nat) : Nat := K14 x 7 ^^^ K14 x 18 ^^^ (x >>> 3)
def ss1N (x : Nat) : Nat := K14 x 17 ^^^ K14 x 19 ^^^ (x >>> 10)
def chN (e f g : Nat) : Nat := (e &&& f) ^^^ ((4294967295 - e) &&& g)
def maN (a b c : Nat) : Nat := (a &&& b) ^^^ (a &&& c) ^^^ (b &&& c)
def wdN (b : List Nat) (t : Nat) : Nat := b.getD (4 * t) 0 * 16777216 + b.getD (4 * t + 1) 0 * 65536 + b.getD (4 * t + 2) 0 * 256 + b.getD (4 * t + 3) 0
def Qe2 (w : List Nat) : List Nat := w.tail ++ [(w.getD 0 0 + ss0N (w.getD 1 0) + w.getD 9 0 + ss1N (w.getD 14 0)) % 4294967296]
def rdsN : List Nat → List Nat → Nat → Nat → Nat → Nat → Nat → Nat → Nat → Nat → List Nat
 | [], _, a, b, c, d, e, f, g, h => [a, b, c, d, e, f, g, h]
 | k :: ks, w, a, b, c, d, e, f, g, h =>
  let t1 := h + bs1N e + chN e f g + k + w.getD 0 0
  rdsN ks (Qe2 w) ((t1 + (bs0N a + maN a b c)) % 4294967296) a b c ((d + t1) % 4294967296) e f g
def K39 (s : List UInt32) (b : List UInt8) : List UInt32 :=
 let n := s.map UInt32.toNat
 let x := rdsN kN ((List.range 16).map (wdN (b.map UInt8.toNat))) (n.getD 0 0) (n.getD 1 0) (n.getD 2 0) (n.getD 3 0) (n.getD 4 0) (n.getD 5 0) (n.getD 6 0) (n.getD 7 0)
 [UInt32.ofNat (x.getD 0 0 + n.getD 0 0), UInt32.ofNat (x.getD 1 0 + n.getD 1 0), UInt32.ofNat (x.getD 2 0 + n.getD 2 0), UInt32.ofNat (x.getD 3 0 + n.getD 3 0), UInt32.ofNat (x.getD 4 0 + n.getD 4 0), UInt32.ofNat (x.getD 5 0 + n.getD 5 0), UInt32.ofNat (x.getD 6 0 + n.getD 6 0), UInt32.ofNat (x.getD 7 0 + n.getD 7 0)]
def K15 : Nat → List UInt32 → List UInt8 → List UInt32
 | 0, s, _ => s
 | n + 1, s, l => K15 n (K39 s (l.take 64)) (l.drop 64)
abbrev HH := List UInt32 × List UInt8 × Int × Unit
def wrH (h : HH) (b : List UInt8) : HH := let l := h.2.1 ++ b; (K15 (l.length / 64) h.1 l, l.drop (64 * (l.length / 64)), h.2.2.1 + b.length, ())
def Kww : HH := ([1779033703, 3144134277, 1013904242, 2773480762, 1359893119, 2600822924, 528734635, 1541459225], [], 0, ())
def Kzn (h : HH) : Int := if h.2.2.1 < 0 ∨ 9007199254740991 < h.2.2.1 ∨ (h.2.1.length : Int) ≠ h.2.2.1 % 64 then 3 else 0
def be8 (n : Nat) : List UInt8 := (List.range 8).map fun i => UInt8.ofNat (n / 2 ^ (56 - 8 * i) % 256)
def padH (h : HH) : List UInt8 := 128 :: (List.replicate ((119 - h.2.1.length) % 64) 0 ++ be8 (8 * h.2.2.1.toNat))
def Qhx (s : List UInt32) : List UInt8 := (List.range 32).map fun i => J3k (Jqx (s.getD (i / 4) 0) (24 - 8 * (i % 4 : Nat)))
def finH (h : HH) : List UInt8 := Qhx (wrH h (padH h)).1
def Kk1 (b : List UInt8) : List UInt8 := finH (wrH Kww b)
def okH (h : HH) : Bool := decide (h.1.length = 8 ∧ h.2.1.length ≤ 1000 ∧ 0 ≤ h.2.2.1 ∧ h.2.2.1 ≤ 1152921504606846976)
def Kzo (k : List UInt8) (x : UInt8) : List UInt8 := let l := (if k.length > 64 then Kk1 k else k); (l ++ List.replicate (64 - l.length) 0).map fun b => Jpj b x
def Qe3 (k b : List UInt8) : List UInt8 := Kk1 (Kzo k 92 ++ Kk1 (Kzo k 54 ++ b))
def Qe4 (a b : List UInt8) : List UInt8 := List.zipWith Jpj a b
def Jve (_ : UInt32) (n : Int) : Bool := decide (0 ≤ n ∧ n ≤ 32)
def J6m (x : UInt32) (n : Int) : UInt32 := ror x n
def Qax (_ : UInt32) (n : Int) : Bool := decide (0 ≤ n)
def Qe5 (x : UInt32) (n : Int) : UInt32 := Jqx x n
def Jfj (_ : UInt32) (a b c : Int) (l : Nat) : Bool := decide (0 ≤ a ∧ a ≤ 32 ∧ 0 ≤ b ∧ b ≤ 32 ∧ 0 ≤ c ∧ c ≤ 32) && (l == 168 || l == 177)
def Jd7 (x : UInt32) (a b c : Int) (l : Nat) : UInt32 := Jgg (Jgg (ror x a) (ror x b)) (bif l == 168 then ror x c else Jqx x c)
def J4m : Bool := true
def Kfk : List UInt32 := kW
def Jx7 (s : List UInt32) (b : List UInt8) : Bool := decide (s.length = 8 ∧ 64 ≤ b.length)
def Kfl (s : List UInt32) (b : List UInt8) : List UInt32 := K39 s (b.take 64)
def J2l : Bool := true
def Jgf : HH := Kww
def Jdz (h : HH) (b : List UInt8) : Bool := okH h && decide (b.length ≤ 1000000000)
def Jcq (h : HH) (b : List UInt8) : HH := wrH h b
def Jgl (h : HH) : Bool := okH h && decide (h.2.1.length < 64)
def Jjs (h : HH) : List UInt8 := finH h
def Kk2 (b : List UInt8) : Bool := decide (b.length ≤ 1000000000)
def Jvf (b : List UInt8) : List UInt8 := Kk1 b
def Jtq (k : List UInt8) (_ : UInt8) : Bool := decide (k.length ≤ 1000000000)
def Jd9 (k : List UInt8) (x : UInt8) : List UInt8 := Kzo k x
def Jrx (k b : List UInt8) : Bool := decide (k.length ≤ 1000000000 ∧ b.length ≤ 100000000)
def J2m (k b : List UInt8) : List UInt8 := Qe3 k b
def Jx8 : Bool := true
def Jx9 : List UInt32 := kW
def Jdl (_ : UInt32) (n : Int) : Bool := decide (0 ≤ n ∧ n ≤ 32)
def Jgi (x : UInt32) (n : Int) : UInt32 := ror x n
def Jya (b : List UInt8) : Bool := decide (64 ≤ b.length)
def J4n (b : List UInt8) : List UInt32 := (List.range 64).map (wd b)
def Jry (s : List UInt32) (b : List UInt8) : Bool := decide (s.length = 8 ∧ 64 ≤ b.length)
def Jn8 (s : List UInt32) (b : List UInt8) : List UInt32 := K39 s (b.take 64)
def Kwx : Bool := true
def J2n : HH := Kww
def Jyb (h : HH) : Int := Kzn h
def Jh7 (h : HH) (b : List UInt8) : Bool := okH h && decide (b.length ≤ 1000000000)
def Jn9 (h : HH) (b : List UInt8) : HH := wrH h b
def Jrz (h : HH) : Bool := decide (h.1.length = 8)
def Jtr (h : HH) : List UInt8 := if Kzn h = 0 then finH h else List.replicate 32 0
def J0s (h : HH) : Int := Kzn h
def Joa (b : List UInt8) : Bool := decide (b.length ≤ 1000000000)
def Jgm (b : List UInt8) : List UInt8 := Kk1 b
def Jyc (k b : List UInt8) : Bool := decide (k.length ≤ 1000000000 ∧ b.length ≤ 100000000)
def Kcp (k b : List UInt8) : List UInt8 := Qe3 k b
end Go.AI
namespace Go.AI
open Go
def Kwy : Int := 9007199254740991
def Jfk (n : Int) : Int := bif decide (n < 0) then 0 else bif decide (n > 9007199254740991) then 0 else n
def fur (m : Int) : Int :=
 if m < 128 then 0 else if m < 16384 then 1 else if m < 2097152 then 2 else if m < 268435456 then 3 else if m < 34359738368 then 4
 else if m < 4398046511104 then 5 else if m < 562949953421312 then 6 else 7
def Kk3 (m : Nat) : Nat → List UInt8
 | 0 => []
 | k + 1 => UInt8.ofNat (m / 2 ^ (8 * k) % 256) :: Kk3 m k
def J3m (m : Int) : List UInt8 := UInt8.ofNat (256 - 2 ^ (8 - (fur m).toNat) + m.toNat / 2 ^ (8 * (fur m).toNat)) :: Kk3 m.toNat (fur m).toNat
def Kcq (n : Nat) : Nat := if n = 0 then 0 else n.log2 + 1
def J95 (b : UInt8) : Nat := if b < 128 then 0 else if b < 192 then 1 else if b < 224 then 2 else if b < 240 then 3 else if b < 248 then 4 else if b < 252 then 5 else if b < 254 then 6 else if b < 255 then 7 else 8
def Jcr (a : Nat) (l : List UInt8) : Nat := l.foldl (fun a c => 256 * a + c.toNat) a
def Jbc : List UInt8 → Int × List UInt8 × Int
 | [] => (0, [], 9)
 | b :: r => if J95 b = 8 then (0, [], 3) else if r.length < J95 b then (0, [], 9)
  else if Kwy < (Jcr (b.toNat - (256 - 2 ^ (8 - J95 b))) (r.take (J95 b)) : Int) ∨ fur (Jcr (b.toNat - (256 - 2 ^ (8 - J95 b))) (r.take (J95 b))) ≠ J95 b then (0, [], 3)
  else ((Jcr (b.toNat - (256 - 2 ^ (8 - J95 b))) (r.take (J95 b)) : Int), r.drop (J95 b), 0)
def Jch (src : List UInt8) : Int × List UInt8 × Int :=
 let x := Jbc src
 if x.2.2 = 0 ∧ x.1 > 65536 then (0, [], 5) else x
def Jay (src : List UInt8) : List UInt8 × List UInt8 × Int :=
 let x := Jch src
 if x.2.2 ≠ 0 then ([], [], x.2.2) else if (x.2.1.length : Int) < x.1 then ([], [], 9) else (x.2.1.take x.1.toNat, x.2.1.drop x.1.toNat, 0)
def Jnc (x : Int) : Bool := decide (0 ≤ x ∧ x < 18446744073709551616)
def Jr0 (x : Int) : Int := Kcq x.toNat
def Jpk (x : UInt8) : Int := Kcq x.toNat
def Jts (x : Int) : Bool := decide (0 ≤ x ∧ x < 18446744073709551616)
def Jtt (x : Int) : Int := Kcq x.toNat
def Jav (x : UInt8) : Int := 8 - Kcq x.toNat
def Jbx (n : Int) : Int := Jfk n
def Jdi (n : Int) : Bool := decide (0 ≤ n ∧ n ≤ 9007199254740991)
def Jbe (n : Int) : Int := fur n
def Jbh (s : List UInt8) : Bool := decide (s.length ≤ 2000000000)
def Jb4 (s : List UInt8) : List UInt8 := s
def Jlc (dst : List UInt8) (n : Int) : Bool := decide (dst.length ≤ 2000000000 ∧ -9223372036854775808 ≤ n ∧ n < 9223372036854775808)
def Job (dst : List UInt8) (n : Int) : List UInt8 := dst ++ J3m (Jfk n)
def Jf9 (dst : List UInt8) (n : Int) : Bool := decide (dst.length ≤ 2000000000 ∧ -9223372036854775808 ≤ n ∧ n < 9223372036854775808)
def Jkm (dst : List UInt8) (n : Int) : List UInt8 := dst ++ J3m (Jfk n)
def Jef (b : List UInt8) : Bool := decide (b.length ≤ 2000000000)
def Jao (b : List UInt8) : Int := (Jbc b).1
def Jam (b : List UInt8) : List UInt8 := (Jbc b).2.1
def Jbb (b : List UInt8) : Int := (Jbc b).2.2
def Jeg (dst b : List UInt8) : Bool := decide (dst.length + b.length ≤ 1000000000)
def Jh8 (dst b : List UInt8) : List UInt8 := dst ++ J3m (Jfk b.length) ++ b
def Jfl (b : List UInt8) : Bool := decide (b.length ≤ 2000000000)
def Jd0 (b : List UInt8) : List UInt8 := (Jay b).1
def Jd1 (b : List UInt8) : List UInt8 := (Jay b).2.1
def Jci (b : List UInt8) : Int := (Jay b).2.2
end Go.AI
namespace Go.AI
open Go
def Qay (x k : Nat) : Nat := (x * 2 ^ k) % 4294967296 + x / 2 ^ (32 - k)
def K16 (x : UInt32) (k : Nat) : UInt32 := UInt32.ofNat (Qay x.toNat k)
def stp (w : List UInt32) (t f o k : Nat) : List UInt32 :=
 (w.set t (Jbf (w.getD t 0) (w.getD f 0))).set o (K16 (Jgg ((w.set t (Jbf (w.getD t 0) (w.getD f 0))).getD o 0) ((w.set t (Jbf (w.getD t 0) (w.getD f 0))).getD t 0)) k)
def qrt (w : List UInt32) (a b c d : Nat) : List UInt32 := stp (stp (stp (stp w a b d 16) c d b 12) a b d 8) c d b 7
def K4a (w : List UInt32) : Nat → List UInt32
 | 0 => w
 | i + 1 => qrt (K4a w i) i (4 + i) (8 + i) (12 + i)
def Qaz (w : List UInt32) : Nat → List UInt32
 | 0 => w
 | i + 1 => qrt (Qaz w i) i (4 + (i + 1) % 4) (8 + (i + 2) % 4) (12 + (i + 3) % 4)
def K4b (w : List UInt32) : Nat → List UInt32
 | 0 => w
 | n + 1 => Qaz (K4a (K4b w n) 4) 4
def kwd (key : List UInt8) (i : Nat) : UInt32 := UInt32.ofNat ((key.getD (4 * i) 0).toNat + 256 * (key.getD (4 * i + 1) 0).toNat + 65536 * (key.getD (4 * i + 2) 0).toNat + 16777216 * (key.getD (4 * i + 3) 0).toNat)
def Qhy (key : List UInt8) (nonce counter : Int) : List UInt32 :=
 [1634760805, 857760878, 2036477234, 1797285236, kwd key 0, kwd key 1, kwd key 2, kwd key 3, kwd key 4, kwd key 5, kwd key 6, kwd key 7, Kcl counter, 0, Kcl nonce, Kcl (nonce / 4294967296)]
def le4 (x : UInt32) : List UInt8 := [J3k x, J3k (Jqx x 8), J3k (Jqx x 16), J3k (Jqx x 24)]
def Kfm (m w : List UInt32) (n : Nat) : List UInt8 := (List.range n).flatMap fun i => le4 (Jbf (m.getD i 0) (w.getD i 0))
def Kre (key : List UInt8) (nonce counter : Int) : List UInt8 := Kfm (K4b (Qhy key nonce counter) 10) (Qhy key nonce counter) 16
def inR (nonce : Int) : Bool := decide (0 ≤ nonce ∧ nonce ≤ 9007199254740991)
def Qc9 (nonce counter : Int) : Int := if inR nonce ∧ 0 ≤ counter ∧ counter ≤ 4294967295 then 0 else 2
def Qg8 (key : List UInt8) (nonce : Int) : Nat → Nat → List UInt8 → List UInt8
 | 0, _, _ => []
 | n + 1, c, b => Qe4 (b.take 64) (Kre key nonce c) ++ Qg8 key nonce n (c + 1) (b.drop 64)
def Jxe (key : List UInt8) (nonce : Int) (b : List UInt8) : List UInt8 := Qg8 key nonce ((b.length + 63) / 64) 1 b
def K4c (nonce : Int) (b : List UInt8) : Int := if (b.length : Int) > 65536 then 5 else if inR nonce then 0 else 2
def Qhz (key : List UInt8) (nonce : Int) (b : List UInt8) : List UInt8 := if K4c nonce b = 0 then Jxe key nonce b else []
def Kjh (k : List UInt8) : List UInt8 := Qe3 k [101, 110, 99, 114, 121, 112, 116]
def Jn2 (k : List UInt8) : List UInt8 := Qe3 k [97, 117, 116, 104, 101, 110, 116, 105, 99, 97, 116, 101]
def le8 (n : Int) : List UInt8 := (List.range 8).map fun i => UInt8.ofNat (n.toNat / 2 ^ (8 * i) % 256)
def K17 (key : List UInt8) (nonce : Int) (b : List UInt8) : List UInt8 := (Qe3 key (le8 nonce ++ b)).take 16
def Kaf (k : List UInt8) : Bool := decide (1 ≤ k.length ∧ k.length ≤ 64)
def Kji (k : List UInt8) (nonce : Int) (b : List UInt8) : Int := if Kaf k then if (b.length : Int) > 65520 then 5 else if inR nonce then 0 else 2 else 1
def Kfn (k : List UInt8) (nonce : Int) (b : List UInt8) : List UInt8 := if Kji k nonce b = 0 then Jxe (Kjh k) nonce b ++ K17 (Jn2 k) nonce (Jxe (Kjh k) nonce b) else []
def J4o (k : List UInt8) (nonce : Int) (b : List UInt8) : Int := if Kaf k then if (b.length : Int) > 65536 then 5 else if inR nonce then if b.length < 16 then 9 else
 if K17 (Jn2 k) nonce (b.take (b.length - 16)) = b.drop (b.length - 16) then 0 else 25 else 2 else 1
def K9o (k : List UInt8) (nonce : Int) (b : List UInt8) : List UInt8 := if J4o k nonce b = 0 then Jxe (Kjh k) nonce (b.take (b.length - 16)) else []
def J0t (_ : UInt32) (k : Int) : Bool := k == 7 || k == 8 || k == 12 || k == 16
def J6n (x : UInt32) (k : Int) : UInt32 := K16 x k.toNat
def J4p (_ : List UInt8) (nonce _ : Int) : Bool := inR nonce
def J4q (key : List UInt8) (nonce counter : Int) : List UInt32 := Qhy key nonce counter
def Kwz (_ : List UInt8) (nonce _ : Int) : Bool := inR nonce
def Kw0 (key : List UInt8) (nonce counter : Int) : List UInt8 := Kre key nonce counter
def Jpl (nonce : Int) : Bool := inR nonce
def Jl4 (_ : List UInt8) (_ : Int) (_ : List UInt8) : Bool := true
def Jiy (key : List UInt8) (nonce : Int) (b : List UInt8) : List UInt8 := Qhz key nonce b
def Jga (_ : List UInt8) (nonce : Int) (b : List UInt8) : Int := K4c nonce b
def Jpm (k : List UInt8) : Bool := decide (k.length ≤ 1000000000)
def Jfb (k : List UInt8) : List UInt8 := Kjh k
def Jgo (k : List UInt8) : List UInt8 := Jn2 k
def J2o (key : List UInt8) (nonce : Int) (b : List UInt8) : Bool := inR nonce && decide (key.length = 32 ∧ b.length ≤ 10000000)
def J2p (key : List UInt8) (nonce : Int) (b : List UInt8) : List UInt8 := K17 key nonce b
def Jl5 (k : List UInt8) : Bool := Kaf k
def Kfo (_ : List UInt8) (_ : Int) (_ : List UInt8) : Bool := true
def Jpn (k : List UInt8) (nonce : Int) (b : List UInt8) : List UInt8 := Kfn k nonce b
def Jtu (k : List UInt8) (nonce : Int) (b : List UInt8) : Int := Kji k nonce b
def J0u (_ : List UInt8) (_ : Int) (_ : List UInt8) : Bool := true
def Jh9 (k : List UInt8) (nonce : Int) (b : List UInt8) : List UInt8 := K9o k nonce b
def Jkn (k : List UInt8) (nonce : Int) (b : List UInt8) : Int := J4o k nonce b
def Jhn (a b : List UInt8) : Bool := decide (a.length ≤ 1000000000000 ∧ b.length ≤ 1000000000000)
def Jho (a b : List UInt8) : Bool := a == b
def Jgw (_ : UInt32) (n : Int) : Bool := decide (0 ≤ n ∧ n ≤ 16)
def Jiz (x : UInt32) (n : Int) : UInt32 := K16 x n.toNat
def Jtv (_ : List UInt8) (nonce _ : Int) : Bool := inR nonce
def J4r (key : List UInt8) (nonce counter : Int) : List UInt32 := Qhy key nonce counter
def Jl6 (n bytes : Int) : Bool := decide (0 ≤ n ∧ n ≤ 9007199254740991 ∧ 0 ≤ bytes ∧ bytes ≤ 8)
def Jia (n bytes : Int) : List UInt8 := (List.range bytes.toNat).map fun i => UInt8.ofNat (n.toNat / 2 ^ (8 * i) % 256)
def Jib (n : Int) : Bool := inR n
def J4s (_ : List UInt8) (_ _ : Int) : Bool := true
def Jic (key : List UInt8) (nonce counter : Int) : List UInt8 := if Qc9 nonce counter = 0 then Kre key nonce counter else []
def J6o (_ : List UInt8) (nonce counter : Int) : Int := Qc9 nonce counter
def Jyd (_ : List UInt8) (_ : Int) (_ : List UInt8) : Bool := true
def Joc (key : List UInt8) (nonce : Int) (b : List UInt8) : List UInt8 := Qhz key nonce b
def Jod (_ : List UInt8) (nonce : Int) (b : List UInt8) : Int := K4c nonce b
def J0v (k : List UInt8) : Bool := decide (k.length ≤ 1000000000)
def Jpo (k : List UInt8) : List UInt8 := Kjh k
def Jtw (k : List UInt8) : List UInt8 := Jn2 k
def J2q (key : List UInt8) (nonce : Int) (b : List UInt8) : Bool := inR nonce && decide (key.length = 32 ∧ b.length ≤ 10000000)
def Kk4 (key : List UInt8) (nonce : Int) (b : List UInt8) : List UInt8 := K17 key nonce b
def Krf (_ : List UInt8) (_ : Int) (_ : List UInt8) : Bool := true
def Kfp (k : List UInt8) (nonce : Int) (b : List UInt8) : List UInt8 := K9o k nonce b
def Jye (k : List UInt8) (nonce : Int) (b : List UInt8) : Int := J4o k nonce b
end Go.AI
namespace Go.AI
open Go
abbrev Jf6 := Int × (Int × (Int × Unit))
abbrev Bys := List UInt8
def Kqa : Jf6 := (0, (0, (0, ())))
def sh1 (r : Nat) : Nat := if r % 2 = 1 then (r / 2) ^^^ 3988292384 else r / 2
def sh8 (r : Nat) : Nat := sh1 (sh1 (sh1 (sh1 (sh1 (sh1 (sh1 (sh1 r)))))))
def Qh0 (r : Nat) (b : UInt8) : Nat := sh8 (r ^^^ b.toNat)
def crcG (r : Nat) (b : Bys) : Nat := b.foldl Qh0 r
def K4d (b : Bys) : Nat := crcG 4294967295 b ^^^ 4294967295
def Jyf (_ : UInt32) : Bool := true
def Jjt (r : UInt32) : UInt32 := UInt32.ofNat (sh8 r.toNat)
def J4t : Bool := true
def Jko : List UInt32 := (List.range 256).map fun i => UInt32.ofNat (sh8 i)
def Kk5 (_ : UInt32) (b : Bys) : Bool := decide (b.length ≤ 1000000000)
def Kw1 (s : UInt32) (b : Bys) : UInt32 := UInt32.ofNat (crcG (s.toNat ^^^ 4294967295) b ^^^ 4294967295)
def Kcr (b : Bys) : Bool := decide (b.length ≤ 1000000000)
def Kcs (b : Bys) : UInt32 := UInt32.ofNat (K4d b)
def be : Nat → Nat → Bys
 | 0, _ => []
 | k + 1, n => UInt8.ofNat (n / 256 ^ k) :: be k n
def beV (l : Bys) : Nat := l.foldl (fun n b => 256 * n + b.toNat) 0
def fld (p : Ja7) (a n : Nat) : Nat := beV ((p.drop a).take n)
def Jar (n : Nat) : Nat := (n + 14) / 15
def Jkp (n : Int) : Bool := decide (0 ≤ n ∧ n ≤ 1000000000000)
def Jkq (n : Int) : Int := ((Jar n.toNat : Nat) : Int)
def Qda (n : Int) : Int := if 0 ≤ n ∧ n ≤ 65536 then ((Jar n.toNat + 1 : Nat) : Int) else 0
def J4u (_ : Int) : Bool := true
def Jji (n : Int) : Int := Qda n
def J96 (l : Jf6) : Int := if l.2.2.1 < 2 ∨ l.2.2.1 > 8192 ∨ l.1 < 1 ∨ l.1 > l.2.2.1 then 2 else if l.2.1 < 0 ∨ l.2.1 ≥ l.1 then 3 else 0
def Jkr (l : Jf6) : Int := J96 l
def Jh3 : Ja7 := [3, 99, 111, 109, 112, 97, 99, 116, 111, 114, 32, 108, 111, 103, 32, 49]
def J6p : Bool := true
def J0w : Ja7 := Jh3
def Jnd (l : Bys) : Bool := decide (l.length ≤ 7)
def Jb5 (l : Bys) : Int := ((beV l : Nat) : Int)
def Jtx (b : Bys) (c : Nat) : Ja7 := 2 :: (be 4 c ++ (be 3 (Jar b.length) ++ (be 4 b.length ++ be 4 (K4d b))))
def J6q (b : Bys) (c : Int) : Bool := decide (b.length ≤ 1000000000 ∧ 0 ≤ c ∧ c ≤ 1000000000)
def Jyg (b : Bys) (c : Int) : Ja7 := Jtx b c.toNat
def Kzp (p : Ja7) (a n v : Nat) : Ja7 := p.take a ++ (be n v ++ p.drop (a + n))
def Kjj : Nat → Bys → List Ja7
 | 0, _ => []
 | k + 1, b => (1 :: (b.take 15 ++ List.replicate (15 - (b.take 15).length) 0)) :: Kjj k (b.drop 15)
def Jcn (b : Bys) : List Ja7 := Kjj (Jar b.length) b
def wrO (a : Int) (ps : List Ja7) : DOp := (0, (a, (ps, ())))
def syO : DOp := (1, (0, ([], ())))
def Jks (_ : Int) (_ : List Ja7) : Bool := true
def Jkt (a : Int) (ps : List Ja7) : DOp := wrO a ps
def Jpp : Bool := true
def Jpq : DOp := syO
def K9p (n : Int) : List DOp := if 2 ≤ n ∧ n ≤ 8192 then [wrO 0 (List.replicate n.toNat z16), syO, wrO 0 [Jh3], syO] else []
def fmtL (n : Int) : Jf6 := if 2 ≤ n ∧ n ≤ 8192 then (1, (0, (n, ()))) else Kqa
def fmtE (n : Int) : Int := if 2 ≤ n ∧ n ≤ 8192 then 0 else 2
def J6r (_ : Int) : Bool := true
def Ji0 (n : Int) : Jf6 := fmtL n
def Jeh (n : Int) : List DOp := K9p n
def Joe (n : Int) : Int := fmtE n
def appE (l : Jf6) (b : Bys) : Int := if J96 l = 0 then (if b.length > 65536 then 5 else if l.2.2.1 - l.1 < Jar b.length + 1 then 11 else 0) else J96 l
def Jxf (l : Jf6) (b : Bys) : List DOp := (if b = [] then [] else [wrO l.1 (Jcn b), syO]) ++ [wrO (l.1 + Jar b.length) [Jtx b (l.2.1 + 1).toNat], syO]
def K4e (l : Jf6) (b : Bys) : List DOp := if appE l b = 0 then Jxf l b else []
def K4f (l : Jf6) (b : Bys) : Jf6 := (l.1 + Jar b.length + 1, (l.2.1 + 1, (l.2.2.1, ())))
def Qdb (l : Jf6) (b : Bys) : Jf6 := if appE l b = 0 then K4f l b else Kqa
def Jyh (_ : Jf6) (_ : Bys) : Bool := true
def Jof (l : Jf6) (b : Bys) : Jf6 := Qdb l b
def Jog (l : Jf6) (b : Bys) : List DOp := K4e l b
def Joh (l : Jf6) (b : Bys) : Int := appE l b
def Jew (p : Ja7) : Bool := decide ((p.getD 0 0).toNat = 1)
def Jh4 (ps : List Ja7) : Bys := ps.flatMap fun p => (p.drop 1).take 15
def Kzq (b : Bys) (_ : Nat) : Bool := decide (b.length ≤ 1000000000)
def Jl7 (b : Bys) : Bool := b.any fun x => decide (x.toNat ≠ 0)
def Kzr (b : Bys) (_ : Nat) : Bool := Jl7 b
def Ju5 (p : Ja7) (num : Int) (k : Nat) (pay : Bys) : Bool :=
 decide ((p.getD 0 0).toNat = 2 ∧ (fld p 1 4 : Int) = num ∧ fld p 5 3 = k ∧ fld p 8 4 ≤ 65536 ∧ Jar (fld p 8 4) = k) && (!Jl7 (pay.drop (fld p 8 4)) && decide (fld p 12 4 = K4d (pay.take (fld p 8 4))))
def J0x (l : List Ja7) (num : Int) : Option (Bys × List Ja7) :=
 match l.dropWhile Jew with
 | [] => none
 | p :: r => if Ju5 p num (l.takeWhile Jew).length (Jh4 (l.takeWhile Jew)) then some ((Jh4 (l.takeWhile Jew)).take (fld p 8 4), r) else none
def Jj9 : Nat → List Ja7 → Int → List Bys × List Ja7
 | 0, l, _ => ([], l)
 | n + 1, l, num => match J0x l num with
  | none => ([], l)
  | some (b, r) => (b :: (Jj9 n r (num + 1)).1, (Jj9 n r (num + 1)).2)
def Kag (l : List Ja7) (first : Int) : List Bys × List Ja7 := if 1 ≤ first ∧ first ≤ 8192 then Jj9 l.length l first else ([], l)
def Jr1 (l : List Ja7) : Bool := l.all fun p => decide (p.length = 16)
def J0y (l : List Ja7) (_ : Int) : Bool := decide (l.length ≤ 1000000) && Jr1 l
def Jyi (l : List Ja7) (first : Int) : List Bys := (Kag l first).1
def Jku (l : List Ja7) (first : Int) : Int := (l.length : Int) - ((Kag l first).2.length : Int)
def opE (d : DK) : Int := if Kwu d = 0 then (if d.1.length < 2 then 2 else if (Jxd d).getD 0 z16 = Jh3 then 0 else 3) else Kwu d
def opL (d : DK) : Jf6 := if opE d = 0 then (1 + Jku (Jxd d).tail 1, (((Kag (Jxd d).tail 1).1.length : Int), ((d.1.length : Int), ()))) else Kqa
def opB (d : DK) : List Bys := if opE d = 0 then (Kag (Jxd d).tail 1).1 else []
def Qh1 (d : DK) : Bool := Jr1 d.1 && d.2.1.all fun p => decide (p.2.1.length = 16)
def Ji1 (d : DK) : Bool := Jrv d && Qh1 d
def Jpr (d : DK) : Jf6 := opL d
def Jfc (d : DK) : List Bys := opB d
def Jkv (d : DK) : Int := opE d
end Go.AI
namespace Go.AI
open Go
abbrev Rec := Int × (List UInt8 × Unit)
def Jju (r : Rec) : Int := if 1 ≤ r.1 ∧ r.1 ≤ 4 then (if r.2.1.length > 65536 then 5 else 0) else 1
def Kw2 : List Rec → Int
 | [] => 0
 | r :: l => if Jju r = 0 then Kw2 l else Jju r
def Kct (l : List Rec) : Int := if l.length > 1024 then 6 else Kw2 l
def Jka (r : Rec) : List UInt8 := J3m (Jfk r.1) ++ (J3m (Jfk r.2.1.length) ++ r.2.1)
def Jr2 (l : List Rec) : List UInt8 := J3m (Jfk l.length) ++ l.flatMap Jka
def Kcu (l : List Rec) : Int := if Kct l = 0 then (if (Jr2 l).length > 65536 then 5 else 0) else Kct l
def Qh2 (l : List Rec) : List UInt8 := if Kcu l = 0 then Jr2 l else []
def Krg : Nat → List UInt8 → List Rec → List Rec × Int
 | 0, b, out => if b.length = 0 then (out, 0) else ([], 3)
 | n + 1, b, out => if (Jbc b).2.2 ≠ 0 then ([], (Jbc b).2.2) else if 1 ≤ (Jbc b).1 ∧ (Jbc b).1 ≤ 4 then
   (if (Jay (Jbc b).2.1).2.2 ≠ 0 then ([], (Jay (Jbc b).2.1).2.2) else Krg n (Jay (Jbc b).2.1).2.1 (out ++ [((Jbc b).1, ((Jay (Jbc b).2.1).1, ()))]))
  else ([], 1)
def Kah (b : List UInt8) : List Rec × Int :=
 if b.length > 65536 then ([], 5) else if (Jbc b).2.2 ≠ 0 then ([], (Jbc b).2.2) else if (Jbc b).1 > 1024 then ([], 6) else Krg (Jbc b).1.toNat (Jbc b).2.1 []
def Jne (_ : List Rec) : Bool := true
def Jjj (l : List Rec) : Int := Kct l
def Jps (b : List UInt8) (_ : Nat) (x : Int) : Bool := Jf9 b x
def Jkb (b : List UInt8) (_ : Nat) (x : Int) : List UInt8 := Jkm b x
def Jwk (b : List UInt8) (_ : Nat) (x : List UInt8) : Bool := Jeg b x
def Jr3 (b : List UInt8) (_ : Nat) (x : List UInt8) : List UInt8 := Jh8 b x
def Jr4 (_ : List Rec) : Bool := true
def Jcm (l : List Rec) : List UInt8 := Qh2 l
def Ji2 (l : List Rec) : Int := Kcu l
def Jjv (_ : List UInt8) : Bool := true
def Jei (b : List UInt8) : List Rec := (Kah b).1
def Jej (b : List UInt8) : Int := (Kah b).2
def Qdc (l : List Rec) : Bool := l.all (fun r => decide (r.2.1.length ≤ 300)) && decide (l.length ≤ 60)
def Kw3 (_ : List Rec) : Bool := true
def Kcv (l : List Rec) : Bool := Qdc l
def K9q (l : List Rec) : Bool := decide (l.length ≤ 1000000000000)
def Kfq (a b : List Rec) : Bool := K9q a && K9q b
def J6s (a b : List Rec) : Bool := decide (a = b)
def K18 (l : List (List Rec)) : Bool := decide (l.length ≤ 1000000000000) && l.all K9q
def Jld (a b : List (List Rec)) : Bool := K18 a && K18 b
def Jle (a b : List (List Rec)) : Bool := decide (a = b)
end Go.AI
namespace Go.AI
open Go
def Kw4 (key : Bys) (c : Int) (l : List Rec) : Int := if Kcu l = 0 then (if key = [] then 0 else Kji key c (Jr2 l)) else Kcu l
def J0d (key : Bys) (c : Int) (l : List Rec) : Bys := if key = [] then Jr2 l else Kfn key c (Jr2 l)
def Kqb (l : Jf6) (key : Bys) (recs : List Rec) : Int := if J96 l = 0 then (if Kw4 key (l.2.1 + 1) recs = 0 then appE l (J0d key (l.2.1 + 1) recs) else Kw4 key (l.2.1 + 1) recs) else J96 l
def K19 (l : Jf6) (key : Bys) (recs : List Rec) : Jf6 := if J96 l = 0 ∧ Kw4 key (l.2.1 + 1) recs = 0 then Qdb l (J0d key (l.2.1 + 1) recs) else Kqa
def J2r (l : Jf6) (key : Bys) (recs : List Rec) : List DOp := if J96 l = 0 ∧ Kw4 key (l.2.1 + 1) recs = 0 then K4e l (J0d key (l.2.1 + 1) recs) else []
def Joi (_ : Jf6) (_ : Bys) (_ : List Rec) : Bool := true
def Jhp (l : Jf6) (key : Bys) (recs : List Rec) : Jf6 := K19 l key recs
def Jb2 (l : Jf6) (key : Bys) (recs : List Rec) : List DOp := J2r l key recs
def Jlf (l : Jf6) (key : Bys) (recs : List Rec) : Int := Kqb l key recs
def Jcy : Bool := true
def unB (key : Bys) (i : Int) (b : Bys) : List Rec × Int := if key = [] then Kah b else if J4o key i b = 0 then Kah (K9o key i b) else ([], J4o key i b)
def J6t (key : Bys) : Int → List Bys → List (List Rec) → List (List Rec) × Int
 | _, [], out => (out, 0)
 | i, b :: bs, out => if (unB key i b).2 = 0 then J6t key (i + 1) bs (out ++ [(unB key i b).1]) else ([], (unB key i b).2)
def Krh (d : DK) (key : Bys) : Int := if opE d = 0 then (if key.length > 64 then 1 else (J6t key 1 (opB d) []).2) else opE d
def Kk6 (d : DK) (key : Bys) : List (List Rec) := if Krh d key = 0 then (J6t key 1 (opB d) []).1 else []
def Qa0 (d : DK) (key : Bys) : Jf6 := if Krh d key = 0 then opL d else Kqa
def Jl8 (d : DK) (_ : Bys) : Bool := Ji1 d
def Joj (d : DK) (key : Bys) : Jf6 := Qa0 d key
def Je6 (d : DK) (key : Bys) : List (List Rec) := Kk6 d key
def Jty (d : DK) (key : Bys) : Int := Krh d key
def wR (r : List Rec) : Nat := (r.map fun x => 20 + x.2.1.length).sum
def wS (l : List (List Rec)) : Nat := (l.map wR).sum
def okT (r : List Rec) : Bool := Qdc r && decide (Kct r = 0)
def Kzs (l : List (List Rec)) (key : Bys) : Bool := l.all okT && (decide (l.length ≤ 10) && (decide (wS l ≤ 2000) && decide (key.length ≤ 64)))
def K4g (_ : List (List Rec)) (_ : Bys) : Bool := true
def Kw5 (l : List (List Rec)) (key : Bys) : Bool := Kzs l key
def begT (n : Nat) : DK := (Jh3 :: List.replicate (n - 1) z16, ([], ()))
def J4v : Bool := true
def Jr5 : DK := begT 400
def Jok : Jf6 := (1, (0, (400, ())))
def J6u : Bool := true
def cmD (key : Bys) : List (List Rec) → DK × Jf6 → DK × Jf6
 | [], x => x
 | r :: l, x => cmD key l ((J3l x.1 (J2r x.2 key r)).1, K19 x.2 key r)
def Jr6 (l : List (List Rec)) (key : Bys) : Bool := Kzs l key
def Ja3 (l : List (List Rec)) (key : Bys) : DK := (cmD key l (Jr5, Jok)).1
def Jkw (l : List (List Rec)) (key : Bys) : Jf6 := (cmD key l (Jr5, Jok)).2
def Jpt (_ : List (List Rec)) (_ : Bys) : Bool := true
end Go.AI
