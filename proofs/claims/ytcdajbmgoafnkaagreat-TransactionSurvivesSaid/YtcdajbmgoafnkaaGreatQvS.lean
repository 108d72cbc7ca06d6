/- Texts of the proof, joined: DiskS DigestS WireS CipherS LogS TransS TransK. Names of our own are shortened by program; the long ones stand in wip/. -/
import Derived.Test.YtcdajbmgoafnkaaGreatQvA5
namespace Go.AI
abbrev ZB := List UInt8
abbrev ZW := List UInt32
abbrev ZR := (Int × ((List UInt8) × Unit))
abbrev ZD := ((List (List UInt8)) × ((List ZR) × Unit))
abbrev ZL := (Int × (Int × (Int × Unit)))
abbrev ZH := ((List UInt32) × ((List UInt8) × (Int × Unit)))
end Go.AI
namespace Go.AI
open Go
abbrev Jbe := List UInt8
abbrev Jl9 := Int × (Jbe × Unit)
abbrev DK := List Jbe × (List Jl9 × Unit)
abbrev DOp := Int × (Int × (List Jbe × Unit))
def dk0 : DK := ([], ([], ()))
def Kp4 (s : List Jbe) (l : List Jl9) : List Jbe := l.foldl (fun o p => o.set p.1.toNat p.2.1) s
def Jvi (d : DK) : List Jbe := Kp4 d.1 d.2.1
def okP (n : Nat) (l : List Jl9) : Bool := l.all fun p => decide (0 ≤ p.1 ∧ p.1 < (n : Int))
def okD (d : DK) : Bool := decide (1 ≤ d.1.length ∧ d.1.length ≤ 8192) && okP d.1.length d.2.1
def Kp5 (d : DK) : Int := if okD d then 0 else 2
def Ka6 (d : DK) (at_ n : Int) : Bool := decide (0 ≤ at_ ∧ 0 ≤ n ∧ at_ + n ≤ d.1.length)
def wrS (at_ : Int) : List Jbe → List Jl9
 | [] => []
 | p :: l => (at_, (p, ())) :: wrS (at_ + 1) l
def Jjw (d : DK) (op : DOp) : DK × Int :=
 if op.1 = 0 then (if Ka6 d op.2.1 op.2.2.1.length then ((d.1, (d.2.1 ++ wrS op.2.1 op.2.2.1, ())), 0) else (dk0, 2))
 else if op.1 = 1 then ((Jvi d, ([], ())), 0) else (dk0, 1)
def goD (d : DK) : List DOp → Int → DK × (Int × Int)
 | [], i => (d, (i, 0))
 | op :: l, i => if (Jjw d op).2 = 0 then goD (Jjw d op).1 l (i + 1) else (dk0, (i, (Jjw d op).2))
def Jpp (d : DK) (l : List DOp) : DK × (Int × Int) := if okD d then goD d l 0 else (dk0, (0, 2))
def Ka7 (l : List DOp) : Nat := (l.map fun op => op.2.2.1.length).sum
def Jma (d : DK) : Bool := decide (d.1.length ≤ 1000000 ∧ d.2.1.length ≤ 100000000)
def K8s (ch : List Int) (n : Nat) : Int := match ch with
 | [] => 0
 | c :: _ => c % n
def Jhx : List Jl9 → List Int → List Int
 | [], _ => []
 | p :: l, seen => if seen.contains p.1 then Jhx l seen else p.1 :: Jhx l (p.1 :: seen)
def Klg (d : DK) (at_ : Int) : List Jbe := d.1.getD at_.toNat z16 :: (d.2.1.filter fun p => p.1 == at_).map fun p => p.2.1
def J3g (d : DK) (s : List Int × List Jbe) (at_ : Int) : List Int × List Jbe :=
 (s.1.tail, s.2.set at_.toNat ((Klg d at_).getD (K8s s.1 (Klg d at_).length).toNat z16))
def K9k (d : DK) (ch : List Int) : List Int × List Jbe := (Jhx d.2.1 []).foldl (J3g d) (ch, d.1)
def Jti (d : DK) (ch : List Int) : DK × (List Int × Int) := if okD d then (((K9k d ch).2, ([], ())), ((K9k d ch).1, 0)) else (dk0, ([], 2))
def Kst (d : DK) (l : List DOp) (after : Int) (ch : List Int) : DK × (List Int × Int) :=
 if okD d then (if 0 ≤ after ∧ after ≤ l.length then (if (Jpp d (l.take after.toNat)).2.2 = 0 then Jti (Jpp d (l.take after.toNat)).1 ch else (dk0, ([], (Jpp d (l.take after.toNat)).2.2))) else (dk0, ([], 2))) else (dk0, ([], 2))
def Jhy (s : List Jbe) : Bool := decide (s.length ≤ 2000000000)
def Joa (s : List Jbe) : List Jbe := s
def Jwe (s : List Jl9) : Bool := decide (s.length ≤ 2000000000)
def J1r (s : List Jl9) : List Jl9 := s
def J3h (s : List Int) : Bool := decide (s.length ≤ 2000000000)
def Ka8 (s : List Int) : List Int := s
def Jyj (d : DK) (_ _ : Int) : Bool := Jma d
def Jqj (d : DK) (at_ n : Int) : Bool := Ka6 d at_ n
def Kw4 (_ : Int) : Bool := true
def K43 (n : Int) : DK := if 1 ≤ n ∧ n ≤ 8192 then (List.replicate n.toNat z16, ([], ())) else dk0
def newE (n : Int) : Int := if 1 ≤ n ∧ n ≤ 8192 then 0 else 2
def Jk7 (n : Int) : DK := K43 n
def J3i (n : Int) : Int := newE n
def Jiw (d : DK) : Bool := Jma d
def Je4 (d : DK) : Int := Kp5 d
def Jhd (d : DK) : Bool := Jma d && okP d.1.length d.2.1
def Jii (d : DK) : List Jbe := Jvi d
def K22 (d : DK) (at_ n : Int) : List Jbe := if okD d && Ka6 d at_ n then ((Jvi d).drop at_.toNat).take n.toNat else []
def Ksu (d : DK) (at_ n : Int) : Int := if okD d && Ka6 d at_ n then 0 else 2
def Ka9 (d : DK) (_ _ : Int) : Bool := Jma d
def Jed (d : DK) (at_ n : Int) : List Jbe := K22 d at_ n
def Jr8 (d : DK) (at_ n : Int) : Int := Ksu d at_ n
def Kw5 (d : DK) (l : List DOp) : Bool := decide (d.1.length ≤ 1000000 ∧ d.2.1.length ≤ 10000000 ∧ l.length ≤ 1000000 ∧ Ka7 l ≤ 10000000)
def Jz0 (d : DK) (l : List DOp) : Bool := Kw5 d l
def Jgi (d : DK) (l : List DOp) : DK := (Jpp d l).1
def Klh (d : DK) (l : List DOp) : Int := (Jpp d l).2.1
def Jk8 (d : DK) (l : List DOp) : Int := (Jpp d l).2.2
def Jqk (_ : List Int) (n : Int) : Bool := decide (1 ≤ n ∧ n ≤ 1000000000)
def Jij (ch : List Int) (n : Int) : Int := K8s ch n.toNat
def Jm0 (ch : List Int) (_ : Int) : List Int := ch.tail
def Jwf (d : DK) (ch : List Int) : Bool := Jma d && decide (ch.length ≤ 1000000000)
def Jql (d : DK) (ch : List Int) : DK := (Jti d ch).1
def Jqm (d : DK) (ch : List Int) : List Int := (Jti d ch).2.1
def Jqn (d : DK) (ch : List Int) : Int := (Jti d ch).2.2
def K9l (d : DK) (l : List DOp) (ch : List Int) : Bool := Kw5 d l && decide (ch.length ≤ 1000000000)
def Jqo (d : DK) (l : List DOp) (_ : Int) (ch : List Int) : Bool := K9l d l ch
def Jjx (d : DK) (l : List DOp) (after : Int) (ch : List Int) : DK := (Kst d l after ch).1
def Job (d : DK) (l : List DOp) (after : Int) (ch : List Int) : List Int := (Kst d l after ch).2.1
def Jhz (d : DK) (l : List DOp) (after : Int) (ch : List Int) : Int := (Kst d l after ch).2.2
end Go.AI
namespace Go.AI
open Go
def ror (x : UInt32) (n : Int) : UInt32 := orW (Jr7 x n) (Jxz x (Jb3 32 n))
def bs0 (a : UInt32) : UInt32 := Jmm (Jmm (ror a 2) (ror a 13)) (ror a 22)
def bs1 (e : UInt32) : UInt32 := Jmm (Jmm (ror e 6) (ror e 11)) (ror e 25)
def ss0 (x : UInt32) : UInt32 := Jmm (Jmm (ror x 7) (ror x 18)) (Jr7 x 3)
def ss1 (x : UInt32) : UInt32 := Jmm (Jmm (ror x 17) (ror x 19)) (Jr7 x 10)
def chW (e f g : UInt32) : UInt32 := Jmm (J3d e f) (J3d (K20 e) g)
def maW (a b c : UInt32) : UInt32 := Jmm (Jmm (J3d a b) (J3d a c)) (J3d b c)
def Ksv (b : List UInt8) (t : Nat) : UInt32 :=
 orW (Jxz (orW (Jxz (orW (Jxz (orW (Jxz 0 8) (Jx0 (b.getD (4 * t) 0))) 8) (Jx0 (b.getD (4 * t + 1) 0))) 8) (Jx0 (b.getD (4 * t + 2) 0))) 8) (Jx0 (b.getD (4 * t + 3) 0))
def Ksw (w : List UInt32) : List UInt32 := w.tail ++ [Jdb (Jdb (Jdb (w.getD 0 0) (ss0 (w.getD 1 0))) (w.getD 9 0)) (ss1 (w.getD 14 0))]
def win (b : List UInt8) : Nat → List UInt32
 | 0 => (List.range 16).map (Ksv b)
 | t + 1 => Ksw (win b t)
def wd (b : List UInt8) (t : Nat) : UInt32 := (win b t).getD 0 0
def n8 (s : List UInt32) : List UInt32 := [s.getD 0 0, s.getD 1 0, s.getD 2 0, s.getD 3 0, s.getD 4 0, s.getD 5 0, s.getD 6 0, s.getD 7 0]
def rnd (k w : UInt32) (x : List UInt32) : List UInt32 :=
 let t1 := Jdb (Jdb (Jdb (Jdb (x.getD 7 0) (bs1 (x.getD 4 0))) (chW (x.getD 4 0) (x.getD 5 0) (x.getD 6 0))) k) w
 let t2 := Jdb (bs0 (x.getD 0 0)) (maW (x.getD 0 0) (x.getD 1 0) (x.getD 2 0))
 [Jdb t1 t2, x.getD 0 0, x.getD 1 0, x.getD 2 0, Jdb (x.getD 3 0) t1, x.getD 4 0, x.getD 5 0, x.getD 6 0]
def kN : List Nat := [1116352408, 1899447441, 3049323471, 3921009573, 961987163, 1508970993, 2453635748, 2870763221, 3624381080, 310598401, 607225278, 1426881987, 1925078388, 2162078206, 2614888103, 3248222580, 3835390401, 4022224774, 264347078, 604807628, 770255983, 1249150122, 1555081692, 1996064986, 2554220882, 2821834349, 2952996808, 3210313671, 3336571891, 3584528711, 113926993, 338241895, 666307205, 773529912, 1294757372, 1396182291, 1695183700, 1986661051, 2177026350, 2456956037, 2730485921, 2820302411, 3259730800, 3345764771, 3516065817, 3600352804, 4094571909, 275423344, 430227734, 506948616, 659060556, 883997877, 958139571, 1322822218, 1537002063, 1747873779, 1955562222, 2024104815, 2227730452, 2361852424, 2428436474, 2756734187, 3204031479, 3329325298]
def kW : List UInt32 := [1116352408, 1899447441, 3049323471, 3921009573, 961987163, 1508970993, 2453635748, 2870763221, 3624381080, 310598401, 607225278, 1426881987, 1925078388, 2162078206, 2614888103, 3248222580, 3835390401, 4022224774, 264347078, 604807628, 770255983, 1249150122, 1555081692, 1996064986, 2554220882, 2821834349, 2952996808, 3210313671, 3336571891, 3584528711, 113926993, 338241895, 666307205, 773529912, 1294757372, 1396182291, 1695183700, 1986661051, 2177026350, 2456956037, 2730485921, 2820302411, 3259730800, 3345764771, 3516065817, 3600352804, 4094571909, 275423344, 430227734, 506948616, 659060556, 883997877, 958139571, 1322822218, 1537002063, 1747873779, 1955562222, 2024104815, 2227730452, 2361852424, 2428436474, 2756734187, 3204031479, 3329325298]
def rds (b : List UInt8) (s : List UInt32) : Nat → List UInt32
 | 0 => n8 s
 | t + 1 => rnd (kW.getD t 0) (wd b t) (rds b s t)
def add8 (x s : List UInt32) : List UInt32 := [Jdb (x.getD 0 0) (s.getD 0 0), Jdb (x.getD 1 0) (s.getD 1 0), Jdb (x.getD 2 0) (s.getD 2 0), Jdb (x.getD 3 0) (s.getD 3 0), Jdb (x.getD 4 0) (s.getD 4 0), Jdb (x.getD 5 0) (s.getD 5 0), Jdb (x.getD 6 0) (s.getD 6 0), Jdb (x.getD 7 0) (s.getD 7 0)]
def K9m (s : List UInt32) (b : List UInt8) : List UInt32 := add8 (rds b s 64) s
def Kuy (x n : Nat) : Nat := (x >>> n) ||| ((x <<< (32 - n)) % 4294967296)
def bs0N (a : Nat) : Nat := Kuy a 2 ^^^ Kuy a 13 ^^^ Kuy a 22
def bs1N (e : Nat) : Nat := Kuy e 6 ^^^ Kuy e 11 ^^^ Kuy e 25
def ss0N (x : Nat) : Nat := Kuy x 7 ^^^ Kuy x 18 ^^^ (x >>> 3)
def ss1N (x : Nat) : Nat := Kuy x 17 ^^^ Kuy x 19 ^^^ (x >>> 10)
def chN (e f g : Nat) : Nat := (e &&& f) ^^^ ((4294967295 - e) &&& g)
def maN (a b c : Nat) : Nat := (a &&& b) ^^^ (a &&& c) ^^^ (b &&& c)
def wdN (b : List Nat) (t : Nat) : Nat := b.getD (4 * t) 0 * 16777216 + b.getD (4 * t + 1) 0 * 65536 + b.getD (4 * t + 2) 0 * 256 + b.getD (4 * t + 3) 0
def K6y (w : List Nat) : List Nat := w.tail ++ [(w.getD 0 0 + ss0N (w.getD 1 0) + w.getD 9 0 + ss1N (w.getD 14 0)) % 4294967296]
def rdsN : List Nat → List Nat → Nat → Nat → Nat → Nat → Nat → Nat → Nat → Nat → List Nat
 | [], _, a, b, c, d, e, f, g, h => [a, b, c, d, e, f, g, h]
 | k :: ks, w, a, b, c, d, e, f, g, h =>
  let t1 := h + bs1N e + chN e f g + k + w.getD 0 0
  rdsN ks (K6y w) ((t1 + (bs0N a + maN a b c)) % 4294967296) a b c ((d + t1) % 4294967296) e f g
def K44 (s : List UInt32) (b : List UInt8) : List UInt32 :=
 let n := s.map UInt32.toNat
 let x := rdsN kN ((List.range 16).map (wdN (b.map UInt8.toNat))) (n.getD 0 0) (n.getD 1 0) (n.getD 2 0) (n.getD 3 0) (n.getD 4 0) (n.getD 5 0) (n.getD 6 0) (n.getD 7 0)
 [UInt32.ofNat (x.getD 0 0 + n.getD 0 0), UInt32.ofNat (x.getD 1 0 + n.getD 1 0), UInt32.ofNat (x.getD 2 0 + n.getD 2 0), UInt32.ofNat (x.getD 3 0 + n.getD 3 0), UInt32.ofNat (x.getD 4 0 + n.getD 4 0), UInt32.ofNat (x.getD 5 0 + n.getD 5 0), UInt32.ofNat (x.getD 6 0 + n.getD 6 0), UInt32.ofNat (x.getD 7 0 + n.getD 7 0)]
def Kw6 : Nat → List UInt32 → List UInt8 → List UInt32
 | 0, s, _ => s
 | n + 1, s, l => Kw6 n (K44 s (l.take 64)) (l.drop 64)
abbrev HH := List UInt32 × List UInt8 × Int × Unit
def wrH (h : HH) (b : List UInt8) : HH := let l := h.2.1 ++ b; (Kw6 (l.length / 64) h.1 l, l.drop (64 * (l.length / 64)), h.2.2.1 + b.length, ())
def K23 : HH := ([1779033703, 3144134277, 1013904242, 2773480762, 1359893119, 2600822924, 528734635, 1541459225], [], 0, ())
def be8 (n : Nat) : List UInt8 := (List.range 8).map fun i => UInt8.ofNat (n / 2 ^ (56 - 8 * i) % 256)
def padH (h : HH) : List UInt8 := 128 :: (List.replicate ((119 - h.2.1.length) % 64) 0 ++ be8 (8 * h.2.2.1.toNat))
def outH (s : List UInt32) : List UInt8 := (List.range 32).map fun i => J3e (Jr7 (s.getD (i / 4) 0) (24 - 8 * (i % 4 : Nat)))
def finH (h : HH) : List UInt8 := outH (wrH h (padH h)).1
def K45 (b : List UInt8) : List UInt8 := finH (wrH K23 b)
def okH (h : HH) : Bool := decide (h.1.length = 8 ∧ h.2.1.length ≤ 1000 ∧ 0 ≤ h.2.2.1 ∧ h.2.2.1 ≤ 1152921504606846976)
def Kuz (k : List UInt8) (x : UInt8) : List UInt8 := let l := (if k.length > 64 then K45 k else k); (l ++ List.replicate (64 - l.length) 0).map fun b => J6f b x
def K9n (k b : List UInt8) : List UInt8 := K45 (Kuz k 92 ++ K45 (Kuz k 54 ++ b))
def K6z (a b : List UInt8) : List UInt8 := List.zipWith J6f a b
def Jtj (_ : UInt32) (n : Int) : Bool := decide (0 ≤ n ∧ n ≤ 32)
def J3j (x : UInt32) (n : Int) : UInt32 := ror x n
def K24 (_ : UInt32) (n : Int) : Bool := decide (0 ≤ n)
def K60 (x : UInt32) (n : Int) : UInt32 := Jr7 x n
def Jft (_ : UInt32) (a b c : Int) (l : Nat) : Bool := decide (0 ≤ a ∧ a ≤ 32 ∧ 0 ≤ b ∧ b ≤ 32 ∧ 0 ≤ c ∧ c ≤ 32) && (l == 168 || l == 177)
def Jel (x : UInt32) (a b c : Int) (l : Nat) : UInt32 := Jmm (Jmm (ror x a) (ror x b)) (bif l == 168 then ror x c else Jr7 x c)
def J1s : Bool := true
def Kba : List UInt32 := kW
def Jwg (s : List UInt32) (b : List UInt8) : Bool := decide (s.length = 8 ∧ 64 ≤ b.length)
def Kbb (s : List UInt32) (b : List UInt8) : List UInt32 := K44 s (b.take 64)
def Jz1 : Bool := true
def Jgh : HH := K23
def Jee (h : HH) (b : List UInt8) : Bool := okH h && decide (b.length ≤ 1000000000)
def Jc5 (h : HH) (b : List UInt8) : HH := wrH h b
def Jgl (h : HH) : Bool := okH h && decide (h.2.1.length < 64)
def Ji6 (h : HH) : List UInt8 := finH h
def Kf7 (b : List UInt8) : Bool := decide (b.length ≤ 1000000000)
def Jtk (b : List UInt8) : List UInt8 := K45 b
def Jr9 (k : List UInt8) (_ : UInt8) : Bool := decide (k.length ≤ 1000000000)
def Jen (k : List UInt8) (x : UInt8) : List UInt8 := Kuz k x
def Jqp (k b : List UInt8) : Bool := decide (k.length ≤ 1000000000 ∧ b.length ≤ 100000000)
def Jz2 (k b : List UInt8) : List UInt8 := K9n k b
end Go.AI
namespace Go.AI
open Go
def Kp6 : Int := 9007199254740991
def Jf9 (n : Int) : Int := bif decide (n < 0) then 0 else bif decide (n > 9007199254740991) then 0 else n
def fur (m : Int) : Int :=
 if m < 128 then 0 else if m < 16384 then 1 else if m < 2097152 then 2 else if m < 268435456 then 3 else if m < 34359738368 then 4
 else if m < 4398046511104 then 5 else if m < 562949953421312 then 6 else 7
def Kp7 (m : Nat) : Nat → List UInt8
 | 0 => []
 | k + 1 => UInt8.ofNat (m / 2 ^ (8 * k) % 256) :: Kp7 m k
def J6p (m : Int) : List UInt8 := UInt8.ofNat (256 - 2 ^ (8 - (fur m).toNat) + m.toNat / 2 ^ (8 * (fur m).toNat)) :: Kp7 m.toNat (fur m).toNat
def J8q (n : Nat) : Nat := if n = 0 then 0 else n.log2 + 1
def J6q (b : UInt8) : Nat := if b < 128 then 0 else if b < 192 then 1 else if b < 224 then 2 else if b < 240 then 3 else if b < 248 then 4 else if b < 252 then 5 else if b < 254 then 6 else if b < 255 then 7 else 8
def Jeo (a : Nat) (l : List UInt8) : Nat := l.foldl (fun a c => 256 * a + c.toNat) a
def Jcc : List UInt8 → Int × List UInt8 × Int
 | [] => (0, [], 9)
 | b :: r => if J6q b = 8 then (0, [], 3) else if r.length < J6q b then (0, [], 9)
  else if Kp6 < (Jeo (b.toNat - (256 - 2 ^ (8 - J6q b))) (r.take (J6q b)) : Int) ∨ fur (Jeo (b.toNat - (256 - 2 ^ (8 - J6q b))) (r.take (J6q b))) ≠ J6q b then (0, [], 3)
  else ((Jeo (b.toNat - (256 - 2 ^ (8 - J6q b))) (r.take (J6q b)) : Int), r.drop (J6q b), 0)
def Jgt (src : List UInt8) : Int × List UInt8 × Int :=
 let x := Jcc src
 if x.2.2 = 0 ∧ x.1 > 65536 then (0, [], 5) else x
def Jb9 (src : List UInt8) : List UInt8 × List UInt8 × Int :=
 let x := Jgt src
 if x.2.2 ≠ 0 then ([], [], x.2.2) else if (x.2.1.length : Int) < x.1 then ([], [], 9) else (x.2.1.take x.1.toNat, x.2.1.drop x.1.toNat, 0)
def Jmb (x : Int) : Bool := decide (0 ≤ x ∧ x < 18446744073709551616)
def Jqq (x : Int) : Int := J8q x.toNat
def Joc (x : UInt8) : Int := J8q x.toNat
def Jsa (x : Int) : Bool := decide (0 ≤ x ∧ x < 18446744073709551616)
def Jsb (x : Int) : Int := J8q x.toNat
def Ja0 (x : UInt8) : Int := 8 - J8q x.toNat
def Jca (n : Int) : Int := Jf9 n
def Jdy (n : Int) : Bool := decide (0 ≤ n ∧ n ≤ 9007199254740991)
def Jbs (n : Int) : Int := fur n
def Jbt (s : List UInt8) : Bool := decide (s.length ≤ 2000000000)
def Jch (s : List UInt8) : List UInt8 := s
def Jkk (dst : List UInt8) (n : Int) : Bool := decide (dst.length ≤ 2000000000 ∧ -9223372036854775808 ≤ n ∧ n < 9223372036854775808)
def Jm1 (dst : List UInt8) (n : Int) : List UInt8 := dst ++ J6p (Jf9 n)
def Jga (dst : List UInt8) (n : Int) : Bool := decide (dst.length ≤ 2000000000 ∧ -9223372036854775808 ≤ n ∧ n < 9223372036854775808)
def Jjy (dst : List UInt8) (n : Int) : List UInt8 := dst ++ J6p (Jf9 n)
def Jeu (b : List UInt8) : Bool := decide (b.length ≤ 2000000000)
def Jao (b : List UInt8) : Int := (Jcc b).1
def Jal (b : List UInt8) : List UInt8 := (Jcc b).2.1
def Jbi (b : List UInt8) : Int := (Jcc b).2.2
def Jev (dst b : List UInt8) : Bool := decide (dst.length + b.length ≤ 1000000000)
def Jh0 (dst b : List UInt8) : List UInt8 := dst ++ J6p (Jf9 b.length) ++ b
def Jfu (b : List UInt8) : Bool := decide (b.length ≤ 2000000000)
def Jef (b : List UInt8) : List UInt8 := (Jb9 b).1
def Jeg (b : List UInt8) : List UInt8 := (Jb9 b).2.1
def Jct (b : List UInt8) : Int := (Jb9 b).2.2
end Go.AI
namespace Go.AI
open Go
def K46 (x k : Nat) : Nat := (x * 2 ^ k) % 4294967296 + x / 2 ^ (32 - k)
def K9o (x : UInt32) (k : Nat) : UInt32 := UInt32.ofNat (K46 x.toNat k)
def stp (w : List UInt32) (t f o k : Nat) : List UInt32 :=
 (w.set t (Jdb (w.getD t 0) (w.getD f 0))).set o (K9o (Jmm ((w.set t (Jdb (w.getD t 0) (w.getD f 0))).getD o 0) ((w.set t (Jdb (w.getD t 0) (w.getD f 0))).getD t 0)) k)
def qrt (w : List UInt32) (a b c d : Nat) : List UInt32 := stp (stp (stp (stp w a b d 16) c d b 12) a b d 8) c d b 7
def K8t (w : List UInt32) : Nat → List UInt32
 | 0 => w
 | i + 1 => qrt (K8t w i) i (4 + i) (8 + i) (12 + i)
def K9p (w : List UInt32) : Nat → List UInt32
 | 0 => w
 | i + 1 => qrt (K9p w i) i (4 + (i + 1) % 4) (8 + (i + 2) % 4) (12 + (i + 3) % 4)
def K8u (w : List UInt32) : Nat → List UInt32
 | 0 => w
 | n + 1 => K9p (K8t (K8u w n) 4) 4
def kwd (key : List UInt8) (i : Nat) : UInt32 := UInt32.ofNat ((key.getD (4 * i) 0).toNat + 256 * (key.getD (4 * i + 1) 0).toNat + 65536 * (key.getD (4 * i + 2) 0).toNat + 16777216 * (key.getD (4 * i + 3) 0).toNat)
def iniW (key : List UInt8) (nonce counter : Int) : List UInt32 :=
 [1634760805, 857760878, 2036477234, 1797285236, kwd key 0, kwd key 1, kwd key 2, kwd key 3, kwd key 4, kwd key 5, kwd key 6, kwd key 7, Kux counter, 0, Kux nonce, Kux (nonce / 4294967296)]
def le4 (x : UInt32) : List UInt8 := [J3e x, J3e (Jr7 x 8), J3e (Jr7 x 16), J3e (Jr7 x 24)]
def Kli (m w : List UInt32) (n : Nat) : List UInt8 := (List.range n).flatMap fun i => le4 (Jdb (m.getD i 0) (w.getD i 0))
def K1v (key : List UInt8) (nonce counter : Int) : List UInt8 := Kli (K8u (iniW key nonce counter) 10) (iniW key nonce counter) 16
def inR (nonce : Int) : Bool := decide (0 ≤ nonce ∧ nonce ≤ 9007199254740991)
def K8v (key : List UInt8) (nonce : Int) : Nat → Nat → List UInt8 → List UInt8
 | 0, _, _ => []
 | n + 1, c, b => K6z (b.take 64) (K1v key nonce c) ++ K8v key nonce n (c + 1) (b.drop 64)
def J0s (key : List UInt8) (nonce : Int) (b : List UInt8) : List UInt8 := K8v key nonce ((b.length + 63) / 64) 1 b
def K1w (nonce : Int) (b : List UInt8) : Int := if (b.length : Int) > 65536 then 5 else if inR nonce then 0 else 2
def strV (key : List UInt8) (nonce : Int) (b : List UInt8) : List UInt8 := if K1w nonce b = 0 then J0s key nonce b else []
def Kkd (k : List UInt8) : List UInt8 := K9n k [101, 110, 99, 114, 121, 112, 116]
def Jpq (k : List UInt8) : List UInt8 := K9n k [97, 117, 116, 104, 101, 110, 116, 105, 99, 97, 116, 101]
def le8 (n : Int) : List UInt8 := (List.range 8).map fun i => UInt8.ofNat (n.toNat / 2 ^ (8 * i) % 256)
def Kw7 (key : List UInt8) (nonce : Int) (b : List UInt8) : List UInt8 := (K9n key (le8 nonce ++ b)).take 16
def J6r (k : List UInt8) : Bool := decide (1 ≤ k.length ∧ k.length ≤ 64)
def Ken (k : List UInt8) (nonce : Int) (b : List UInt8) : Int := if J6r k then if (b.length : Int) > 65520 then 5 else if inR nonce then 0 else 2 else 1
def Kbc (k : List UInt8) (nonce : Int) (b : List UInt8) : List UInt8 := if Ken k nonce b = 0 then J0s (Kkd k) nonce b ++ Kw7 (Jpq k) nonce (J0s (Kkd k) nonce b) else []
def Kbd (k : List UInt8) (nonce : Int) (b : List UInt8) : Int := if J6r k then if (b.length : Int) > 65536 then 5 else if inR nonce then if b.length < 16 then 9 else
 if Kw7 (Jpq k) nonce (b.take (b.length - 16)) = b.drop (b.length - 16) then 0 else 25 else 2 else 1
def K47 (k : List UInt8) (nonce : Int) (b : List UInt8) : List UInt8 := if Kbd k nonce b = 0 then J0s (Kkd k) nonce (b.take (b.length - 16)) else []
def Jyk (_ : UInt32) (k : Int) : Bool := k == 7 || k == 8 || k == 12 || k == 16
def J3k (x : UInt32) (k : Int) : UInt32 := K9o x k.toNat
def J1t (_ : List UInt8) (nonce _ : Int) : Bool := inR nonce
def J1u (key : List UInt8) (nonce counter : Int) : List UInt32 := iniW key nonce counter
def Kp8 (_ : List UInt8) (nonce _ : Int) : Bool := inR nonce
def Kp9 (key : List UInt8) (nonce counter : Int) : List UInt8 := K1v key nonce counter
def Jod (nonce : Int) : Bool := inR nonce
def Jk9 (_ : List UInt8) (_ : Int) (_ : List UInt8) : Bool := true
def Jik (key : List UInt8) (nonce : Int) (b : List UInt8) : List UInt8 := strV key nonce b
def Jgb (_ : List UInt8) (nonce : Int) (b : List UInt8) : Int := K1w nonce b
def Joe (k : List UInt8) : Bool := decide (k.length ≤ 1000000000)
def Jfn (k : List UInt8) : List UInt8 := Kkd k
def Jgn (k : List UInt8) : List UInt8 := Jpq k
def Jz3 (key : List UInt8) (nonce : Int) (b : List UInt8) : Bool := inR nonce && decide (key.length = 32 ∧ b.length ≤ 10000000)
def Jz4 (key : List UInt8) (nonce : Int) (b : List UInt8) : List UInt8 := Kw7 key nonce b
def Jla (k : List UInt8) : Bool := J6r k
def Kbe (_ : List UInt8) (_ : Int) (_ : List UInt8) : Bool := true
def Jof (k : List UInt8) (nonce : Int) (b : List UInt8) : List UInt8 := Kbc k nonce b
def Jsc (k : List UInt8) (nonce : Int) (b : List UInt8) : Int := Ken k nonce b
def Jyl (_ : List UInt8) (_ : Int) (_ : List UInt8) : Bool := true
def Jh1 (k : List UInt8) (nonce : Int) (b : List UInt8) : List UInt8 := K47 k nonce b
def Jjz (k : List UInt8) (nonce : Int) (b : List UInt8) : Int := Kbd k nonce b
def Jhe (a b : List UInt8) : Bool := decide (a.length ≤ 1000000000000 ∧ b.length ≤ 1000000000000)
def Jhf (a b : List UInt8) : Bool := a == b
end Go.AI
namespace Go.AI
open Go
abbrev Jfp := Int × (Int × (Int × Unit))
abbrev Bys := List UInt8
def Kqa : Jfp := (0, (0, (0, ())))
def sh1 (r : Nat) : Nat := if r % 2 = 1 then (r / 2) ^^^ 3988292384 else r / 2
def sh8 (r : Nat) : Nat := sh1 (sh1 (sh1 (sh1 (sh1 (sh1 (sh1 (sh1 r)))))))
def K9q (r : Nat) (b : UInt8) : Nat := sh8 (r ^^^ b.toNat)
def crcG (r : Nat) (b : Bys) : Nat := b.foldl K9q r
def Kw8 (b : Bys) : Nat := crcG 4294967295 b ^^^ 4294967295
def Jwh (_ : UInt32) : Bool := true
def Ji7 (r : UInt32) : UInt32 := UInt32.ofNat (sh8 r.toNat)
def J1v : Bool := true
def Jj0 : List UInt32 := (List.range 256).map fun i => UInt32.ofNat (sh8 i)
def Kf8 (_ : UInt32) (b : Bys) : Bool := decide (b.length ≤ 1000000000)
def Kqb (s : UInt32) (b : Bys) : UInt32 := UInt32.ofNat (crcG (s.toNat ^^^ 4294967295) b ^^^ 4294967295)
def J8r (b : Bys) : Bool := decide (b.length ≤ 1000000000)
def J8s (b : Bys) : UInt32 := UInt32.ofNat (Kw8 b)
def be : Nat → Nat → Bys
 | 0, _ => []
 | k + 1, n => UInt8.ofNat (n / 256 ^ k) :: be k n
def beV (l : Bys) : Nat := l.foldl (fun n b => 256 * n + b.toNat) 0
def fld (p : Jbe) (a n : Nat) : Nat := beV ((p.drop a).take n)
def Jaq (n : Nat) : Nat := (n + 14) / 15
def Jj1 (n : Int) : Bool := decide (0 ≤ n ∧ n ≤ 1000000000000)
def Jj2 (n : Int) : Int := ((Jaq n.toNat : Nat) : Int)
def K48 (n : Int) : Int := if 0 ≤ n ∧ n ≤ 65536 then ((Jaq n.toNat + 1 : Nat) : Int) else 0
def J1w (_ : Int) : Bool := true
def Jix (n : Int) : Int := K48 n
def J6g (l : Jfp) : Int := if l.2.2.1 < 2 ∨ l.2.2.1 > 8192 ∨ l.1 < 1 ∨ l.1 > l.2.2.1 then 2 else if l.2.1 < 0 ∨ l.2.1 ≥ l.1 then 3 else 0
def Jj3 (l : Jfp) : Int := J6g l
def Jhr : Jbe := [3, 99, 111, 109, 112, 97, 99, 116, 111, 114, 32, 108, 111, 103, 32, 49]
def J3l : Bool := true
def Jym : Jbe := Jhr
def Jmc (l : Bys) : Bool := decide (l.length ≤ 7)
def Jci (l : Bys) : Int := ((beV l : Nat) : Int)
def Jsd (b : Bys) (c : Nat) : Jbe := 2 :: (be 4 c ++ (be 3 (Jaq b.length) ++ (be 4 b.length ++ be 4 (Kw8 b))))
def J3m (b : Bys) (c : Int) : Bool := decide (b.length ≤ 1000000000 ∧ 0 ≤ c ∧ c ≤ 1000000000)
def Jwi (b : Bys) (c : Int) : Jbe := Jsd b c.toNat
def Ksx (p : Jbe) (a n v : Nat) : Jbe := p.take a ++ (be n v ++ p.drop (a + n))
def Keo : Nat → Bys → List Jbe
 | 0, _ => []
 | k + 1, b => (1 :: (b.take 15 ++ List.replicate (15 - (b.take 15).length) 0)) :: Keo k (b.drop 15)
def Jc0 (b : Bys) : List Jbe := Keo (Jaq b.length) b
def wrO (a : Int) (ps : List Jbe) : DOp := (0, (a, (ps, ())))
def syO : DOp := (1, (0, ([], ())))
def Jj4 (_ : Int) (_ : List Jbe) : Bool := true
def Jj5 (a : Int) (ps : List Jbe) : DOp := wrO a ps
def Jog : Bool := true
def Joh : DOp := syO
def K1x (n : Int) : List DOp := if 2 ≤ n ∧ n ≤ 8192 then [wrO 0 (List.replicate n.toNat z16), syO, wrO 0 [Jhr], syO] else []
def fmtL (n : Int) : Jfp := if 2 ≤ n ∧ n ≤ 8192 then (1, (0, (n, ()))) else Kqa
def fmtE (n : Int) : Int := if 2 ≤ n ∧ n ≤ 8192 then 0 else 2
def J3n (_ : Int) : Bool := true
def Jil (n : Int) : Jfp := fmtL n
def Jew (n : Int) : List DOp := K1x n
def Jm2 (n : Int) : Int := fmtE n
def appE (l : Jfp) (b : Bys) : Int := if J6g l = 0 then (if b.length > 65536 then 5 else if l.2.2.1 - l.1 < Jaq b.length + 1 then 11 else 0) else J6g l
def Juo (l : Jfp) (b : Bys) : List DOp := (if b = [] then [] else [wrO l.1 (Jc0 b), syO]) ++ [wrO (l.1 + Jaq b.length) [Jsd b (l.2.1 + 1).toNat], syO]
def Ku0 (l : Jfp) (b : Bys) : List DOp := if appE l b = 0 then Juo l b else []
def Kw9 (l : Jfp) (b : Bys) : Jfp := (l.1 + Jaq b.length + 1, (l.2.1 + 1, (l.2.2.1, ())))
def K49 (l : Jfp) (b : Bys) : Jfp := if appE l b = 0 then Kw9 l b else Kqa
def Jwj (_ : Jfp) (_ : Bys) : Bool := true
def Jm3 (l : Jfp) (b : Bys) : Jfp := K49 l b
def Jm4 (l : Jfp) (b : Bys) : List DOp := Ku0 l b
def Jm5 (l : Jfp) (b : Bys) : Int := appE l b
def Je5 (p : Jbe) : Bool := decide ((p.getD 0 0).toNat = 1)
def Jhs (ps : List Jbe) : Bys := ps.flatMap fun p => (p.drop 1).take 15
def Ksy (b : Bys) (_ : Nat) : Bool := decide (b.length ≤ 1000000000)
def Jlb (b : Bys) : Bool := b.any fun x => decide (x.toNat ≠ 0)
def Ksz (b : Bys) (_ : Nat) : Bool := Jlb b
def Js9 (p : Jbe) (num : Int) (k : Nat) (pay : Bys) : Bool :=
 decide ((p.getD 0 0).toNat = 2 ∧ (fld p 1 4 : Int) = num ∧ fld p 5 3 = k ∧ fld p 8 4 ≤ 65536 ∧ Jaq (fld p 8 4) = k) && (!Jlb (pay.drop (fld p 8 4)) && decide (fld p 12 4 = Kw8 (pay.take (fld p 8 4))))
def Jyn (l : List Jbe) (num : Int) : Option (Bys × List Jbe) :=
 match l.dropWhile Je5 with
 | [] => none
 | p :: r => if Js9 p num (l.takeWhile Je5).length (Jhs (l.takeWhile Je5)) then some ((Jhs (l.takeWhile Je5)).take (fld p 8 4), r) else none
def Jjk : Nat → List Jbe → Int → List Bys × List Jbe
 | 0, l, _ => ([], l)
 | n + 1, l, num => match Jyn l num with
  | none => ([], l)
  | some (b, r) => (b :: (Jjk n r (num + 1)).1, (Jjk n r (num + 1)).2)
def J6s (l : List Jbe) (first : Int) : List Bys × List Jbe := if 1 ≤ first ∧ first ≤ 8192 then Jjk l.length l first else ([], l)
def Jqr (l : List Jbe) : Bool := l.all fun p => decide (p.length = 16)
def Jyo (l : List Jbe) (_ : Int) : Bool := decide (l.length ≤ 1000000) && Jqr l
def Jwk (l : List Jbe) (first : Int) : List Bys := (J6s l first).1
def Jj6 (l : List Jbe) (first : Int) : Int := (l.length : Int) - ((J6s l first).2.length : Int)
def opE (d : DK) : Int := if Kp5 d = 0 then (if d.1.length < 2 then 2 else if (Jvi d).getD 0 z16 = Jhr then 0 else 3) else Kp5 d
def opL (d : DK) : Jfp := if opE d = 0 then (1 + Jj6 (Jvi d).tail 1, (((J6s (Jvi d).tail 1).1.length : Int), ((d.1.length : Int), ()))) else Kqa
def opB (d : DK) : List Bys := if opE d = 0 then (J6s (Jvi d).tail 1).1 else []
def K9r (d : DK) : Bool := Jqr d.1 && d.2.1.all fun p => decide (p.2.1.length = 16)
def Jjl (d : DK) : Bool := Jma d && K9r d
def Joi (d : DK) : Jfp := opL d
def Jmd (d : DK) : List Bys := opB d
def Jme (d : DK) : Int := opE d
end Go.AI
namespace Go.AI
open Go
abbrev Rec := Int × (List UInt8 × Unit)
def Jlc (r : Rec) : Int := if 1 ≤ r.1 ∧ r.1 ≤ 4 then (if r.2.1.length > 65536 then 5 else 0) else 1
def Ku1 : List Rec → Int
 | [] => 0
 | r :: l => if Jlc r = 0 then Ku1 l else Jlc r
def Kep (l : List Rec) : Int := if l.length > 1024 then 6 else Ku1 l
def Jmn (r : Rec) : List UInt8 := J6p (Jf9 r.1) ++ (J6p (Jf9 r.2.1.length) ++ r.2.1)
def Jup (l : List Rec) : List UInt8 := J6p (Jf9 l.length) ++ l.flatMap Jmn
def J8t (l : List Rec) : Int := if Kep l = 0 then (if (Jup l).length > 65536 then 5 else 0) else Kep l
def K9s (l : List Rec) : List UInt8 := if J8t l = 0 then Jup l else []
def K5a : Nat → List UInt8 → List Rec → List Rec × Int
 | 0, b, out => if b.length = 0 then (out, 0) else ([], 3)
 | n + 1, b, out => if (Jcc b).2.2 ≠ 0 then ([], (Jcc b).2.2) else if 1 ≤ (Jcc b).1 ∧ (Jcc b).1 ≤ 4 then
   (if (Jb9 (Jcc b).2.1).2.2 ≠ 0 then ([], (Jb9 (Jcc b).2.1).2.2) else K5a n (Jb9 (Jcc b).2.1).2.1 (out ++ [((Jcc b).1, ((Jb9 (Jcc b).2.1).1, ()))]))
  else ([], 1)
def Klj (b : List UInt8) : List Rec × Int :=
 if b.length > 65536 then ([], 5) else if (Jcc b).2.2 ≠ 0 then ([], (Jcc b).2.2) else if (Jcc b).1 > 1024 then ([], 6) else K5a (Jcc b).1.toNat (Jcc b).2.1 []
def Jmf (_ : List Rec) : Bool := true
def Jiy (l : List Rec) : Int := Kep l
def Joj (b : List UInt8) (_ : Nat) (x : Int) : Bool := Jga b x
def Jjm (b : List UInt8) (_ : Nat) (x : Int) : List UInt8 := Jjy b x
def Juq (b : List UInt8) (_ : Nat) (x : List UInt8) : Bool := Jev b x
def Jqs (b : List UInt8) (_ : Nat) (x : List UInt8) : List UInt8 := Jh0 b x
def Jqt (_ : List Rec) : Bool := true
def Jcy (l : List Rec) : List UInt8 := K9s l
def Jim (l : List Rec) : Int := J8t l
def Ji8 (_ : List UInt8) : Bool := true
def Jex (b : List UInt8) : List Rec := (Klj b).1
def Jey (b : List UInt8) : Int := (Klj b).2
def K5b (l : List Rec) : Bool := l.all (fun r => decide (r.2.1.length ≤ 300)) && decide (l.length ≤ 60)
def Kqc (_ : List Rec) : Bool := true
def J8u (l : List Rec) : Bool := K5b l
def K1y (l : List Rec) : Bool := decide (l.length ≤ 1000000000000)
def Kbf (a b : List Rec) : Bool := K1y a && K1y b
def J3o (a b : List Rec) : Bool := decide (a = b)
def Kqd (l : List (List Rec)) : Bool := decide (l.length ≤ 1000000000000) && l.all K1y
def Jm6 (a b : List (List Rec)) : Bool := Kqd a && Kqd b
def Jin (a b : List (List Rec)) : Bool := decide (a = b)
end Go.AI
namespace Go.AI
open Go
def Kqe (key : Bys) (c : Int) (l : List Rec) : Int := if J8t l = 0 then (if key = [] then 0 else Ken key c (Jup l)) else J8t l
def J6t (key : Bys) (c : Int) (l : List Rec) : Bys := if key = [] then Jup l else Kbc key c (Jup l)
def Kf9 (l : Jfp) (key : Bys) (recs : List Rec) : Int := if J6g l = 0 then (if Kqe key (l.2.1 + 1) recs = 0 then appE l (J6t key (l.2.1 + 1) recs) else Kqe key (l.2.1 + 1) recs) else J6g l
def Ku2 (l : Jfp) (key : Bys) (recs : List Rec) : Jfp := if J6g l = 0 ∧ Kqe key (l.2.1 + 1) recs = 0 then K49 l (J6t key (l.2.1 + 1) recs) else Kqa
def Jtl (l : Jfp) (key : Bys) (recs : List Rec) : List DOp := if J6g l = 0 ∧ Kqe key (l.2.1 + 1) recs = 0 then Ku0 l (J6t key (l.2.1 + 1) recs) else []
def Ji9 (_ : Jfp) (_ : Bys) (_ : List Rec) : Bool := true
def Jdl (l : Jfp) (key : Bys) (recs : List Rec) : Jfp := Ku2 l key recs
def Jav (l : Jfp) (key : Bys) (recs : List Rec) : List DOp := Jtl l key recs
def Jhg (l : Jfp) (key : Bys) (recs : List Rec) : Int := Kf9 l key recs
def Jcb : Bool := true
def unB (key : Bys) (i : Int) (b : Bys) : List Rec × Int := if key = [] then Klj b else if Kbd key i b = 0 then Klj (K47 key i b) else ([], Kbd key i b)
def Kga (key : Bys) : Int → List Bys → List (List Rec) → List (List Rec) × Int
 | _, [], out => (out, 0)
 | i, b :: bs, out => if (unB key i b).2 = 0 then Kga key (i + 1) bs (out ++ [(unB key i b).1]) else ([], (unB key i b).2)
def Ks0 (d : DK) (key : Bys) : Int := if opE d = 0 then (if key.length > 64 then 1 else (Kga key 1 (opB d) []).2) else opE d
def K5c (d : DK) (key : Bys) : List (List Rec) := if Ks0 d key = 0 then (Kga key 1 (opB d) []).1 else []
def K5d (d : DK) (key : Bys) : Jfp := if Ks0 d key = 0 then opL d else Kqa
def Jqu (d : DK) (_ : Bys) : Bool := Jjl d
def Jkl (d : DK) (key : Bys) : Jfp := K5d d key
def Jm7 (d : DK) (key : Bys) : List (List Rec) := K5c d key
def Jm8 (d : DK) (key : Bys) : Int := Ks0 d key
def wR (r : List Rec) : Nat := (r.map fun x => 20 + x.2.1.length).sum
def wS (l : List (List Rec)) : Nat := (l.map wR).sum
def okT (r : List Rec) : Bool := K5b r && decide (Kep r = 0)
def Klk (l : List (List Rec)) (key : Bys) : Bool := l.all okT && (decide (l.length ≤ 10) && (decide (wS l ≤ 2000) && decide (key.length ≤ 64)))
def Kxa (_ : List (List Rec)) (_ : Bys) : Bool := true
def Kqf (l : List (List Rec)) (key : Bys) : Bool := Klk l key
def begT (n : Nat) : DK := (Jhr :: List.replicate (n - 1) z16, ([], ()))
def J1x : Bool := true
def Jqv : DK := begT 400
def Jm9 : Jfp := (1, (0, (400, ())))
def J3p : Bool := true
def cmD (key : Bys) : List (List Rec) → DK × Jfp → DK × Jfp
 | [], x => x
 | r :: l, x => cmD key l ((Jpp x.1 (Jtl x.2 key r)).1, Ku2 x.2 key r)
def Jqw (l : List (List Rec)) (key : Bys) : Bool := Klk l key
def Je6 (l : List (List Rec)) (key : Bys) : DK := (cmD key l (Jqv, Jm9)).1
def Jan (l : List (List Rec)) (key : Bys) : Jfp := (cmD key l (Jqv, Jm9)).2
def Jok (_ : List (List Rec)) (_ : Bys) : Bool := true
end Go.AI
