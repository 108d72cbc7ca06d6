/- Texts of the proof, joined: DiskS DigestS WireS CipherS LogS TransS TransK TopS. Names of our own are shortened by program; the long ones stand in wip/. -/
import Derived.Test.YtnmidfcefljafaaGreatQsA5
namespace Go.AI
abbrev ZB := List UInt8
abbrev ZW := List UInt32
abbrev ZR := (Int × ((List UInt8) × Unit))
abbrev ZD := ((List (List UInt8)) × ((List ZR) × Unit))
abbrev ZL := (Int × (Int × (Int × Unit)))
abbrev ZH := ((List UInt32) × ((List UInt8) × (Int × Unit)))
end Go.AI
namespace Go.AI
open Go
abbrev Ja4 := List UInt8
abbrev Jlq := Int × (Ja4 × Unit)
abbrev DK := List Ja4 × (List Jlq × Unit)
abbrev DOp := Int × (Int × (List Ja4 × Unit))
def dk0 : DK := ([], ([], ()))
def Kpd (s : List Ja4) (l : List Jlq) : List Ja4 := l.foldl (fun o p => o.set p.1.toNat p.2.1) s
def Jut (d : DK) : List Ja4 := Kpd d.1 d.2.1
def okP (n : Nat) (l : List Jlq) : Bool := l.all fun p => decide (0 ≤ p.1 ∧ p.1 < (n : Int))
def okD (d : DK) : Bool := decide (1 ≤ d.1.length ∧ d.1.length ≤ 8192) && okP d.1.length d.2.1
def Kpe (d : DK) : Int := if okD d then 0 else 2
def Kac (d : DK) (at_ n : Int) : Bool := decide (0 ≤ at_ ∧ 0 ≤ n ∧ at_ + n ≤ d.1.length)
def wrS (at_ : Int) : List Ja4 → List Jlq
 | [] => []
 | p :: l => (at_, (p, ())) :: wrS (at_ + 1) l
def Jjg (d : DK) (op : DOp) : DK × Int :=
 if op.1 = 0 then (if Kac d op.2.1 op.2.2.1.length then ((d.1, (d.2.1 ++ wrS op.2.1 op.2.2.1, ())), 0) else (dk0, 2))
 else if op.1 = 1 then ((Jut d, ([], ())), 0) else (dk0, 1)
def goD (d : DK) : List DOp → Int → DK × (Int × Int)
 | [], i => (d, (i, 0))
 | op :: l, i => if (Jjg d op).2 = 0 then goD (Jjg d op).1 l (i + 1) else (dk0, (i, (Jjg d op).2))
def Jo3 (d : DK) (l : List DOp) : DK × (Int × Int) := if okD d then goD d l 0 else (dk0, (0, 2))
def Kad (l : List DOp) : Nat := (l.map fun op => op.2.2.1.length).sum
def Jlr (d : DK) : Bool := decide (d.1.length ≤ 1000000 ∧ d.2.1.length ≤ 100000000)
def K7e (ch : List Int) (n : Nat) : Int := match ch with
 | [] => 0
 | c :: _ => c % n
def Jhn : List Jlq → List Int → List Int
 | [], _ => []
 | p :: l, seen => if seen.contains p.1 then Jhn l seen else p.1 :: Jhn l (p.1 :: seen)
def Kkq (d : DK) (at_ : Int) : List Ja4 := d.1.getD at_.toNat z16 :: (d.2.1.filter fun p => p.1 == at_).map fun p => p.2.1
def J2s (d : DK) (s : List Int × List Ja4) (at_ : Int) : List Int × List Ja4 :=
 (s.1.tail, s.2.set at_.toNat ((Kkq d at_).getD (K7e s.1 (Kkq d at_).length).toNat z16))
def K77 (d : DK) (ch : List Int) : List Int × List Ja4 := (Jhn d.2.1 []).foldl (J2s d) (ch, d.1)
def Jsv (d : DK) (ch : List Int) : DK × (List Int × Int) := if okD d then (((K77 d ch).2, ([], ())), ((K77 d ch).1, 0)) else (dk0, ([], 2))
def Kkr (d : DK) (l : List DOp) (after : Int) (ch : List Int) : DK × (List Int × Int) :=
 if okD d then (if 0 ≤ after ∧ after ≤ l.length then (if (Jo3 d (l.take after.toNat)).2.2 = 0 then Jsv (Jo3 d (l.take after.toNat)).1 ch else (dk0, ([], (Jo3 d (l.take after.toNat)).2.2))) else (dk0, ([], 2))) else (dk0, ([], 2))
def Jho (s : List Ja4) : Bool := decide (s.length ≤ 2000000000)
def Jns (s : List Ja4) : List Ja4 := s
def Jvq (s : List Jlq) : Bool := decide (s.length ≤ 2000000000)
def J06 (s : List Jlq) : List Jlq := s
def J2t (s : List Int) : Bool := decide (s.length ≤ 2000000000)
def Kae (s : List Int) : List Int := s
def Jxy (d : DK) (_ _ : Int) : Bool := Jlr d
def Jp0 (d : DK) (at_ n : Int) : Bool := Kac d at_ n
def Kv5 (_ : Int) : Bool := true
def K3o (n : Int) : DK := if 1 ≤ n ∧ n ≤ 8192 then (List.replicate n.toNat z16, ([], ())) else dk0
def newE (n : Int) : Int := if 1 ≤ n ∧ n ≤ 8192 then 0 else 2
def Jkq (n : Int) : DK := K3o n
def J2u (n : Int) : Int := newE n
def Jil (d : DK) : Bool := Jlr d
def Jes (d : DK) : Int := Kpe d
def Jg1 (d : DK) : Bool := Jlr d && okP d.1.length d.2.1
def Jh7 (d : DK) : List Ja4 := Jut d
def K1n (d : DK) (at_ n : Int) : List Ja4 := if okD d && Kac d at_ n then ((Jut d).drop at_.toNat).take n.toNat else []
def Krx (d : DK) (at_ n : Int) : Int := if okD d && Kac d at_ n then 0 else 2
def Kaf (d : DK) (_ _ : Int) : Bool := Jlr d
def Jdx (d : DK) (at_ n : Int) : List Ja4 := K1n d at_ n
def Jro (d : DK) (at_ n : Int) : Int := Krx d at_ n
def Ktz (d : DK) (l : List DOp) : Bool := decide (d.1.length ≤ 1000000 ∧ d.2.1.length ≤ 10000000 ∧ l.length ≤ 1000000 ∧ Kad l ≤ 10000000)
def Jvr (d : DK) (l : List DOp) : Bool := Ktz d l
def Jdl (d : DK) (l : List DOp) : DK := (Jo3 d l).1
def Kks (d : DK) (l : List DOp) : Int := (Jo3 d l).2.1
def Jh8 (d : DK) (l : List DOp) : Int := (Jo3 d l).2.2
def Jp1 (_ : List Int) (n : Int) : Bool := decide (1 ≤ n ∧ n ≤ 1000000000)
def Jh9 (ch : List Int) (n : Int) : Int := K7e ch n.toNat
def Jmk (ch : List Int) (_ : Int) : List Int := ch.tail
def Jvs (d : DK) (ch : List Int) : Bool := Jlr d && decide (ch.length ≤ 1000000000)
def Jp2 (d : DK) (ch : List Int) : DK := (Jsv d ch).1
def Jp3 (d : DK) (ch : List Int) : List Int := (Jsv d ch).2.1
def Jp4 (d : DK) (ch : List Int) : Int := (Jsv d ch).2.2
def K78 (d : DK) (l : List DOp) (ch : List Int) : Bool := Ktz d l && decide (ch.length ≤ 1000000000)
def Jls (d : DK) (l : List DOp) (_ : Int) (ch : List Int) : Bool := K78 d l ch
def Jaj (d : DK) (l : List DOp) (after : Int) (ch : List Int) : DK := (Kkr d l after ch).1
def Jcy (d : DK) (l : List DOp) (after : Int) (ch : List Int) : List Int := (Kkr d l after ch).2.1
def Jfw (d : DK) (l : List DOp) (after : Int) (ch : List Int) : Int := (Kkr d l after ch).2.2
end Go.AI
namespace Go.AI
open Go
def ror (x : UInt32) (n : Int) : UInt32 := orW (Jrn x n) (Jxf x (Jdj 32 n))
def bs0 (a : UInt32) : UInt32 := Jl5 (Jl5 (ror a 2) (ror a 13)) (ror a 22)
def bs1 (e : UInt32) : UInt32 := Jl5 (Jl5 (ror e 6) (ror e 11)) (ror e 25)
def ss0 (x : UInt32) : UInt32 := Jl5 (Jl5 (ror x 7) (ror x 18)) (Jrn x 3)
def ss1 (x : UInt32) : UInt32 := Jl5 (Jl5 (ror x 17) (ror x 19)) (Jrn x 10)
def chW (e f g : UInt32) : UInt32 := Jl5 (J2q e f) (J2q (K1l e) g)
def maW (a b c : UInt32) : UInt32 := Jl5 (Jl5 (J2q a b) (J2q a c)) (J2q b c)
def Kry (b : List UInt8) (t : Nat) : UInt32 :=
 orW (Jxf (orW (Jxf (orW (Jxf (orW (Jxf 0 8) (Jxg (b.getD (4 * t) 0))) 8) (Jxg (b.getD (4 * t + 1) 0))) 8) (Jxg (b.getD (4 * t + 2) 0))) 8) (Jxg (b.getD (4 * t + 3) 0))
def Krz (w : List UInt32) : List UInt32 := w.tail ++ [Jcv (Jcv (Jcv (w.getD 0 0) (ss0 (w.getD 1 0))) (w.getD 9 0)) (ss1 (w.getD 14 0))]
def win (b : List UInt8) : Nat → List UInt32
 | 0 => (List.range 16).map (Kry b)
 | t + 1 => Krz (win b t)
def wd (b : List UInt8) (t : Nat) : UInt32 := (win b t).getD 0 0
def n8 (s : List UInt32) : List UInt32 := [s.getD 0 0, s.getD 1 0, s.getD 2 0, s.getD 3 0, s.getD 4 0, s.getD 5 0, s.getD 6 0, s.getD 7 0]
def rnd (k w : UInt32) (x : List UInt32) : List UInt32 :=
 let t1 := Jcv (Jcv (Jcv (Jcv (x.getD 7 0) (bs1 (x.getD 4 0))) (chW (x.getD 4 0) (x.getD 5 0) (x.getD 6 0))) k) w
 let t2 := Jcv (bs0 (x.getD 0 0)) (maW (x.getD 0 0) (x.getD 1 0) (x.getD 2 0))
 [Jcv t1 t2, x.getD 0 0, x.getD 1 0, x.getD 2 0, Jcv (x.getD 3 0) t1, x.getD 4 0, x.getD 5 0, x.getD 6 0]
def kN : List Nat := [1116352408, 1899447441, 3049323471, 3921009573, 961987163, 1508970993, 2453635748, 2870763221, 3624381080, 310598401, 607225278, 1426881987, 1925078388, 2162078206, 2614888103, 3248222580, 3835390401, 4022224774, 264347078, 604807628, 770255983, 1249150122, 1555081692, 1996064986, 2554220882, 2821834349, 2952996808, 3210313671, 3336571891, 3584528711, 113926993, 338241895, 666307205, 773529912, 1294757372, 1396182291, 1695183700, 1986661051, 2177026350, 2456956037, 2730485921, 2820302411, 3259730800, 3345764771, 3516065817, 3600352804, 4094571909, 275423344, 430227734, 506948616, 659060556, 883997877, 958139571, 1322822218, 1537002063, 1747873779, 1955562222, 2024104815, 2227730452, 2361852424, 2428436474, 2756734187, 3204031479, 3329325298]
def kW : List UInt32 := [1116352408, 1899447441, 3049323471, 3921009573, 961987163, 1508970993, 2453635748, 2870763221, 3624381080, 310598401, 607225278, 1426881987, 1925078388, 2162078206, 2614888103, 3248222580, 3835390401, 4022224774, 264347078, 604807628, 770255983, 1249150122, 1555081692, 1996064986, 2554220882, 2821834349, 2952996808, 3210313671, 3336571891, 3584528711, 113926993, 338241895, 666307205, 773529912, 1294757372, 1396182291, 1695183700, 1986661051, 2177026350, 2456956037, 2730485921, 2820302411, 3259730800, 3345764771, 3516065817, 3600352804, 4094571909, 275423344, 430227734, 506948616, 659060556, 883997877, 958139571, 1322822218, 1537002063, 1747873779, 1955562222, 2024104815, 2227730452, 2361852424, 2428436474, 2756734187, 3204031479, 3329325298]
def rds (b : List UInt8) (s : List UInt32) : Nat → List UInt32
 | 0 => n8 s
 | t + 1 => rnd (kW.getD t 0) (wd b t) (rds b s t)
def add8 (x s : List UInt32) : List UInt32 := [Jcv (x.getD 0 0) (s.getD 0 0), Jcv (x.getD 1 0) (s.getD 1 0), Jcv (x.getD 2 0) (s.getD 2 0), Jcv (x.getD 3 0) (s.getD 3 0), Jcv (x.getD 4 0) (s.getD 4 0), Jcv (x.getD 5 0) (s.getD 5 0), Jcv (x.getD 6 0) (s.getD 6 0), Jcv (x.getD 7 0) (s.getD 7 0)]
def K79 (s : List UInt32) (b : List UInt8) : List UInt32 := add8 (rds b s 64) s
def Kt0 (x n : Nat) : Nat := (x >>> n) ||| ((x <<< (32 - n)) % 4294967296)
def bs0N (a : Nat) : Nat := Kt0 a 2 ^^^ Kt0 a 13 ^^^ Kt0 a 22
def bs1N (e : Nat) : Nat := Kt0 e 6 ^^^ Kt0 e 11 ^^^ Kt0 e 25
def ss0N (x : Nat) : Nat := Kt0 x 7 ^^^ Kt0 x 18 ^^^ (x >>> 3)
def ss1N (x : Nat) : Nat := Kt0 x 17 ^^^ Kt0 x 19 ^^^ (x >>> 10)
def chN (e f g : Nat) : Nat := (e &&& f) ^^^ ((4294967295 - e) &&& g)
def maN (a b c : Nat) : Nat := (a &&& b) ^^^ (a &&& c) ^^^ (b &&& c)
def wdN (b : List Nat) (t : Nat) : Nat := b.getD (4 * t) 0 * 16777216 + b.getD (4 * t + 1) 0 * 65536 + b.getD (4 * t + 2) 0 * 256 + b.getD (4 * t + 3) 0
def K5h (w : List Nat) : List Nat := w.tail ++ [(w.getD 0 0 + ss0N (w.getD 1 0) + w.getD 9 0 + ss1N (w.getD 14 0)) % 4294967296]
def rdsN : List Nat → List Nat → Nat → Nat → Nat → Nat → Nat → Nat → Nat → Nat → List Nat
 | [], _, a, b, c, d, e, f, g, h => [a, b, c, d, e, f, g, h]
 | k :: ks, w, a, b, c, d, e, f, g, h =>
  let t1 := h + bs1N e + chN e f g + k + w.getD 0 0
  rdsN ks (K5h w) ((t1 + (bs0N a + maN a b c)) % 4294967296) a b c ((d + t1) % 4294967296) e f g
def K3p (s : List UInt32) (b : List UInt8) : List UInt32 :=
 let n := s.map UInt32.toNat
 let x := rdsN kN ((List.range 16).map (wdN (b.map UInt8.toNat))) (n.getD 0 0) (n.getD 1 0) (n.getD 2 0) (n.getD 3 0) (n.getD 4 0) (n.getD 5 0) (n.getD 6 0) (n.getD 7 0)
 [UInt32.ofNat (x.getD 0 0 + n.getD 0 0), UInt32.ofNat (x.getD 1 0 + n.getD 1 0), UInt32.ofNat (x.getD 2 0 + n.getD 2 0), UInt32.ofNat (x.getD 3 0 + n.getD 3 0), UInt32.ofNat (x.getD 4 0 + n.getD 4 0), UInt32.ofNat (x.getD 5 0 + n.getD 5 0), UInt32.ofNat (x.getD 6 0 + n.getD 6 0), UInt32.ofNat (x.getD 7 0 + n.getD 7 0)]
def Kv6 : Nat → List UInt32 → List UInt8 → List UInt32
 | 0, s, _ => s
 | n + 1, s, l => Kv6 n (K3p s (l.take 64)) (l.drop 64)
abbrev HH := List UInt32 × List UInt8 × Int × Unit
def wrH (h : HH) (b : List UInt8) : HH := let l := h.2.1 ++ b; (Kv6 (l.length / 64) h.1 l, l.drop (64 * (l.length / 64)), h.2.2.1 + b.length, ())
def K1o : HH := ([1779033703, 3144134277, 1013904242, 2773480762, 1359893119, 2600822924, 528734635, 1541459225], [], 0, ())
def be8 (n : Nat) : List UInt8 := (List.range 8).map fun i => UInt8.ofNat (n / 2 ^ (56 - 8 * i) % 256)
def padH (h : HH) : List UInt8 := 128 :: (List.replicate ((119 - h.2.1.length) % 64) 0 ++ be8 (8 * h.2.2.1.toNat))
def outH (s : List UInt32) : List UInt8 := (List.range 32).map fun i => J2r (Jrn (s.getD (i / 4) 0) (24 - 8 * (i % 4 : Nat)))
def finH (h : HH) : List UInt8 := outH (wrH h (padH h)).1
def K3q (b : List UInt8) : List UInt8 := finH (wrH K1o b)
def okH (h : HH) : Bool := decide (h.1.length = 8 ∧ h.2.1.length ≤ 1000 ∧ 0 ≤ h.2.2.1 ∧ h.2.2.1 ≤ 1152921504606846976)
def Kt1 (k : List UInt8) (x : UInt8) : List UInt8 := let l := (if k.length > 64 then K3q k else k); (l ++ List.replicate (64 - l.length) 0).map fun b => J5k b x
def K8a (k b : List UInt8) : List UInt8 := K3q (Kt1 k 92 ++ K3q (Kt1 k 54 ++ b))
def K5i (a b : List UInt8) : List UInt8 := List.zipWith J5k a b
def Jsw (_ : UInt32) (n : Int) : Bool := decide (0 ≤ n ∧ n ≤ 32)
def J2v (x : UInt32) (n : Int) : UInt32 := ror x n
def K1p (_ : UInt32) (n : Int) : Bool := decide (0 ≤ n)
def K5j (x : UInt32) (n : Int) : UInt32 := Jrn x n
def Jfe (_ : UInt32) (a b c : Int) (l : Nat) : Bool := decide (0 ≤ a ∧ a ≤ 32 ∧ 0 ≤ b ∧ b ≤ 32 ∧ 0 ≤ c ∧ c ≤ 32) && (l == 169 || l == 177)
def Jd6 (x : UInt32) (a b c : Int) (l : Nat) : UInt32 := Jl5 (Jl5 (ror x a) (ror x b)) (bif l == 169 then ror x c else Jrn x c)
def J07 : Bool := true
def Kag : List UInt32 := kW
def Jvt (s : List UInt32) (b : List UInt8) : Bool := decide (s.length = 8 ∧ 64 ≤ b.length)
def Kah (s : List UInt32) (b : List UInt8) : List UInt32 := K3p s (b.take 64)
def Jzf : Bool := true
def Jf4 : HH := K1o
def Jdy (h : HH) (b : List UInt8) : Bool := okH h && decide (b.length ≤ 1000000000)
def Jco (h : HH) (b : List UInt8) : HH := wrH h b
def Jf9 (h : HH) : Bool := okH h && decide (h.2.1.length < 64)
def Jiu (h : HH) : List UInt8 := finH h
def Kff (b : List UInt8) : Bool := decide (b.length ≤ 1000000000)
def Jsx (b : List UInt8) : List UInt8 := K3q b
def Jrp (k : List UInt8) (_ : UInt8) : Bool := decide (k.length ≤ 1000000000)
def Jd7 (k : List UInt8) (x : UInt8) : List UInt8 := Kt1 k x
def Jp5 (k b : List UInt8) : Bool := decide (k.length ≤ 1000000000 ∧ b.length ≤ 100000000)
def Jzg (k b : List UInt8) : List UInt8 := K8a k b
end Go.AI
namespace Go.AI
open Go
def Kpf : Int := 9007199254740991
def Jfx (n : Int) : Int := bif decide (n < 0) then 0 else bif decide (n > 9007199254740991) then 0 else n
def fur (m : Int) : Int :=
 if m < 128 then 0 else if m < 16384 then 1 else if m < 2097152 then 2 else if m < 268435456 then 3 else if m < 34359738368 then 4
 else if m < 4398046511104 then 5 else if m < 562949953421312 then 6 else 7
def Kpg (m : Nat) : Nat → List UInt8
 | 0 => []
 | k + 1 => UInt8.ofNat (m / 2 ^ (8 * k) % 256) :: Kpg m k
def J5t (m : Int) : List UInt8 := UInt8.ofNat (256 - 2 ^ (8 - (fur m).toNat) + m.toNat / 2 ^ (8 * (fur m).toNat)) :: Kpg m.toNat (fur m).toNat
def J7w (n : Nat) : Nat := if n = 0 then 0 else n.log2 + 1
def J5u (b : UInt8) : Nat := if b < 128 then 0 else if b < 192 then 1 else if b < 224 then 2 else if b < 240 then 3 else if b < 248 then 4 else if b < 252 then 5 else if b < 254 then 6 else if b < 255 then 7 else 8
def Jd8 (a : Nat) (l : List UInt8) : Nat := l.foldl (fun a c => 256 * a + c.toNat) a
def Jb0 : List UInt8 → Int × List UInt8 × Int
 | [] => (0, [], 9)
 | b :: r => if J5u b = 8 then (0, [], 3) else if r.length < J5u b then (0, [], 9)
  else if Kpf < (Jd8 (b.toNat - (256 - 2 ^ (8 - J5u b))) (r.take (J5u b)) : Int) ∨ fur (Jd8 (b.toNat - (256 - 2 ^ (8 - J5u b))) (r.take (J5u b))) ≠ J5u b then (0, [], 3)
  else ((Jd8 (b.toNat - (256 - 2 ^ (8 - J5u b))) (r.take (J5u b)) : Int), r.drop (J5u b), 0)
def Jgh (src : List UInt8) : Int × List UInt8 × Int :=
 let x := Jb0 src
 if x.2.2 = 0 ∧ x.1 > 65536 then (0, [], 5) else x
def Jby (src : List UInt8) : List UInt8 × List UInt8 × Int :=
 let x := Jgh src
 if x.2.2 ≠ 0 then ([], [], x.2.2) else if (x.2.1.length : Int) < x.1 then ([], [], 9) else (x.2.1.take x.1.toNat, x.2.1.drop x.1.toNat, 0)
def Jlt (x : Int) : Bool := decide (0 ≤ x ∧ x < 18446744073709551616)
def Jp6 (x : Int) : Int := J7w x.toNat
def Jnt (x : UInt8) : Int := J7w x.toNat
def Jrq (x : Int) : Bool := decide (0 ≤ x ∧ x < 18446744073709551616)
def Jrr (x : Int) : Int := J7w x.toNat
def Jaw (x : UInt8) : Int := 8 - J7w x.toNat
def Jbz (n : Int) : Int := Jfx n
def Jdi (n : Int) : Bool := decide (0 ≤ n ∧ n ≤ 9007199254740991)
def Jbg (n : Int) : Int := fur n
def Jbh (s : List UInt8) : Bool := decide (s.length ≤ 2000000000)
def Jb4 (s : List UInt8) : List UInt8 := s
def Jj1 (dst : List UInt8) (n : Int) : Bool := decide (dst.length ≤ 2000000000 ∧ -9223372036854775808 ≤ n ∧ n < 9223372036854775808)
def Jml (dst : List UInt8) (n : Int) : List UInt8 := dst ++ J5t (Jfx n)
def Jfy (dst : List UInt8) (n : Int) : Bool := decide (dst.length ≤ 2000000000 ∧ -9223372036854775808 ≤ n ∧ n < 9223372036854775808)
def Jjh (dst : List UInt8) (n : Int) : List UInt8 := dst ++ J5t (Jfx n)
def Jef (b : List UInt8) : Bool := decide (b.length ≤ 2000000000)
def Jan (b : List UInt8) : Int := (Jb0 b).1
def Jam (b : List UInt8) : List UInt8 := (Jb0 b).2.1
def Ja9 (b : List UInt8) : Int := (Jb0 b).2.2
def Jeg (dst b : List UInt8) : Bool := decide (dst.length + b.length ≤ 1000000000)
def Jhp (dst b : List UInt8) : List UInt8 := dst ++ J5t (Jfx b.length) ++ b
def Jff (b : List UInt8) : Bool := decide (b.length ≤ 2000000000)
def Jdz (b : List UInt8) : List UInt8 := (Jby b).1
def Jd0 (b : List UInt8) : List UInt8 := (Jby b).2.1
def Jch (b : List UInt8) : Int := (Jby b).2.2
end Go.AI
namespace Go.AI
open Go
def K3r (x k : Nat) : Nat := (x * 2 ^ k) % 4294967296 + x / 2 ^ (32 - k)
def K8b (x : UInt32) (k : Nat) : UInt32 := UInt32.ofNat (K3r x.toNat k)
def stp (w : List UInt32) (t f o k : Nat) : List UInt32 :=
 (w.set t (Jcv (w.getD t 0) (w.getD f 0))).set o (K8b (Jl5 ((w.set t (Jcv (w.getD t 0) (w.getD f 0))).getD o 0) ((w.set t (Jcv (w.getD t 0) (w.getD f 0))).getD t 0)) k)
def qrt (w : List UInt32) (a b c d : Nat) : List UInt32 := stp (stp (stp (stp w a b d 16) c d b 12) a b d 8) c d b 7
def K7f (w : List UInt32) : Nat → List UInt32
 | 0 => w
 | i + 1 => qrt (K7f w i) i (4 + i) (8 + i) (12 + i)
def K8c (w : List UInt32) : Nat → List UInt32
 | 0 => w
 | i + 1 => qrt (K8c w i) i (4 + (i + 1) % 4) (8 + (i + 2) % 4) (12 + (i + 3) % 4)
def K7g (w : List UInt32) : Nat → List UInt32
 | 0 => w
 | n + 1 => K8c (K7f (K7g w n) 4) 4
def kwd (key : List UInt8) (i : Nat) : UInt32 := UInt32.ofNat ((key.getD (4 * i) 0).toNat + 256 * (key.getD (4 * i + 1) 0).toNat + 65536 * (key.getD (4 * i + 2) 0).toNat + 16777216 * (key.getD (4 * i + 3) 0).toNat)
def iniW (key : List UInt8) (nonce counter : Int) : List UInt32 :=
 [1634760805, 857760878, 2036477234, 1797285236, kwd key 0, kwd key 1, kwd key 2, kwd key 3, kwd key 4, kwd key 5, kwd key 6, kwd key 7, Kty counter, 0, Kty nonce, Kty (nonce / 4294967296)]
def le4 (x : UInt32) : List UInt8 := [J2r x, J2r (Jrn x 8), J2r (Jrn x 16), J2r (Jrn x 24)]
def Kkt (m w : List UInt32) (n : Nat) : List UInt8 := (List.range n).flatMap fun i => le4 (Jcv (m.getD i 0) (w.getD i 0))
def K0e (key : List UInt8) (nonce counter : Int) : List UInt8 := Kkt (K7g (iniW key nonce counter) 10) (iniW key nonce counter) 16
def inR (nonce : Int) : Bool := decide (0 ≤ nonce ∧ nonce ≤ 9007199254740991)
def K7h (key : List UInt8) (nonce : Int) : Nat → Nat → List UInt8 → List UInt8
 | 0, _, _ => []
 | n + 1, c, b => K5i (b.take 64) (K0e key nonce c) ++ K7h key nonce n (c + 1) (b.drop 64)
def Jz6 (key : List UInt8) (nonce : Int) (b : List UInt8) : List UInt8 := K7h key nonce ((b.length + 63) / 64) 1 b
def K0f (nonce : Int) (b : List UInt8) : Int := if (b.length : Int) > 65536 then 5 else if inR nonce then 0 else 2
def strV (key : List UInt8) (nonce : Int) (b : List UInt8) : List UInt8 := if K0f nonce b = 0 then Jz6 key nonce b else []
def Kjn (k : List UInt8) : List UInt8 := K8a k [101, 110, 99, 114, 121, 112, 116]
def Jp7 (k : List UInt8) : List UInt8 := K8a k [97, 117, 116, 104, 101, 110, 116, 105, 99, 97, 116, 101]
def le8 (n : Int) : List UInt8 := (List.range 8).map fun i => UInt8.ofNat (n.toNat / 2 ^ (8 * i) % 256)
def Kv7 (key : List UInt8) (nonce : Int) (b : List UInt8) : List UInt8 := (K8a key (le8 nonce ++ b)).take 16
def J5v (k : List UInt8) : Bool := decide (1 ≤ k.length ∧ k.length ≤ 64)
def Kku (k : List UInt8) (nonce : Int) (b : List UInt8) : Int := if J5v k then if (b.length : Int) > 65520 then 5 else if inR nonce then 0 else 2 else 1
def Kkv (k : List UInt8) (nonce : Int) (b : List UInt8) : List UInt8 := if Kku k nonce b = 0 then Jz6 (Kjn k) nonce b ++ Kv7 (Jp7 k) nonce (Jz6 (Kjn k) nonce b) else []
def Kai (k : List UInt8) (nonce : Int) (b : List UInt8) : Int := if J5v k then if (b.length : Int) > 65536 then 5 else if inR nonce then if b.length < 16 then 9 else
 if Kv7 (Jp7 k) nonce (b.take (b.length - 16)) = b.drop (b.length - 16) then 0 else 25 else 2 else 1
def K3s (k : List UInt8) (nonce : Int) (b : List UInt8) : List UInt8 := if Kai k nonce b = 0 then Jz6 (Kjn k) nonce (b.take (b.length - 16)) else []
def Jxz (_ : UInt32) (k : Int) : Bool := k == 7 || k == 8 || k == 12 || k == 16
def J2w (x : UInt32) (k : Int) : UInt32 := K8b x k.toNat
def J08 (_ : List UInt8) (nonce _ : Int) : Bool := inR nonce
def J09 (key : List UInt8) (nonce counter : Int) : List UInt32 := iniW key nonce counter
def Kph (_ : List UInt8) (nonce _ : Int) : Bool := inR nonce
def Kpi (key : List UInt8) (nonce counter : Int) : List UInt8 := K0e key nonce counter
def Jnu (nonce : Int) : Bool := inR nonce
def Jkr (_ : List UInt8) (_ : Int) (_ : List UInt8) : Bool := true
def Jia (key : List UInt8) (nonce : Int) (b : List UInt8) : List UInt8 := strV key nonce b
def Jfz (_ : List UInt8) (nonce : Int) (b : List UInt8) : Int := K0f nonce b
def Jnv (k : List UInt8) : Bool := decide (k.length ≤ 1000000000)
def Je9 (k : List UInt8) : List UInt8 := Kjn k
def Jgb (k : List UInt8) : List UInt8 := Jp7 k
def Jzh (key : List UInt8) (nonce : Int) (b : List UInt8) : Bool := inR nonce && decide (key.length = 32 ∧ b.length ≤ 10000000)
def Jzi (key : List UInt8) (nonce : Int) (b : List UInt8) : List UInt8 := Kv7 key nonce b
def Jks (k : List UInt8) : Bool := J5v k
def Kaj (_ : List UInt8) (_ : Int) (_ : List UInt8) : Bool := true
def Jnw (k : List UInt8) (nonce : Int) (b : List UInt8) : List UInt8 := Kkv k nonce b
def Jrs (k : List UInt8) (nonce : Int) (b : List UInt8) : Int := Kku k nonce b
def Jx0 (_ : List UInt8) (_ : Int) (_ : List UInt8) : Bool := true
def Jhq (k : List UInt8) (nonce : Int) (b : List UInt8) : List UInt8 := K3s k nonce b
def Jji (k : List UInt8) (nonce : Int) (b : List UInt8) : Int := Kai k nonce b
def Jg2 (a b : List UInt8) : Bool := decide (a.length ≤ 1000000000000 ∧ b.length ≤ 1000000000000)
def Jg3 (a b : List UInt8) : Bool := a == b
end Go.AI
namespace Go.AI
open Go
abbrev Jf5 := Int × (Int × (Int × Unit))
abbrev Bys := List UInt8
def Kr0 : Jf5 := (0, (0, (0, ())))
def sh1 (r : Nat) : Nat := if r % 2 = 1 then (r / 2) ^^^ 3988292384 else r / 2
def sh8 (r : Nat) : Nat := sh1 (sh1 (sh1 (sh1 (sh1 (sh1 (sh1 (sh1 r)))))))
def K8d (r : Nat) (b : UInt8) : Nat := sh8 (r ^^^ b.toNat)
def crcG (r : Nat) (b : Bys) : Nat := b.foldl K8d r
def Kv8 (b : Bys) : Nat := crcG 4294967295 b ^^^ 4294967295
def Jvu (_ : UInt32) : Bool := true
def Jiv (r : UInt32) : UInt32 := UInt32.ofNat (sh8 r.toNat)
def J1a : Bool := true
def Jjj : List UInt32 := (List.range 256).map fun i => UInt32.ofNat (sh8 i)
def Kfg (_ : UInt32) (b : Bys) : Bool := decide (b.length ≤ 1000000000)
def Kpj (s : UInt32) (b : Bys) : UInt32 := UInt32.ofNat (crcG (s.toNat ^^^ 4294967295) b ^^^ 4294967295)
def J7x (b : Bys) : Bool := decide (b.length ≤ 1000000000)
def J7y (b : Bys) : UInt32 := UInt32.ofNat (Kv8 b)
def be : Nat → Nat → Bys
 | 0, _ => []
 | k + 1, n => UInt8.ofNat (n / 256 ^ k) :: be k n
def beV (l : Bys) : Nat := l.foldl (fun n b => 256 * n + b.toNat) 0
def fld (p : Ja4) (a n : Nat) : Nat := beV ((p.drop a).take n)
def Jas (n : Nat) : Nat := (n + 14) / 15
def Jjk (n : Int) : Bool := decide (0 ≤ n ∧ n ≤ 1000000000000)
def Jjl (n : Int) : Int := ((Jas n.toNat : Nat) : Int)
def K3t (n : Int) : Int := if 0 ≤ n ∧ n ≤ 65536 then ((Jas n.toNat + 1 : Nat) : Int) else 0
def J1b (_ : Int) : Bool := true
def Jim (n : Int) : Int := K3t n
def J5w (l : Jf5) : Int := if l.2.2.1 < 2 ∨ l.2.2.1 > 8192 ∨ l.1 < 1 ∨ l.1 > l.2.2.1 then 2 else if l.2.1 < 0 ∨ l.2.1 ≥ l.1 then 3 else 0
def Jjm (l : Jf5) : Int := J5w l
def Jhe : Ja4 := [3, 99, 111, 109, 112, 97, 99, 116, 111, 114, 32, 108, 111, 103, 32, 49]
def J2x : Bool := true
def Jx1 : Ja4 := Jhe
def Jlu (l : Bys) : Bool := decide (l.length ≤ 7)
def Jb5 (l : Bys) : Int := ((beV l : Nat) : Int)
def Jrt (b : Bys) (c : Nat) : Ja4 := 2 :: (be 4 c ++ (be 3 (Jas b.length) ++ (be 4 b.length ++ be 4 (Kv8 b))))
def J2y (b : Bys) (c : Int) : Bool := decide (b.length ≤ 1000000000 ∧ 0 ≤ c ∧ c ≤ 1000000000)
def Jvv (b : Bys) (c : Int) : Ja4 := Jrt b c.toNat
def Kr1 (p : Ja4) (a n v : Nat) : Ja4 := p.take a ++ (be n v ++ p.drop (a + n))
def Kdw : Nat → Bys → List Ja4
 | 0, _ => []
 | k + 1, b => (1 :: (b.take 15 ++ List.replicate (15 - (b.take 15).length) 0)) :: Kdw k (b.drop 15)
def Jcs (b : Bys) : List Ja4 := Kdw (Jas b.length) b
def wrO (a : Int) (ps : List Ja4) : DOp := (0, (a, (ps, ())))
def syO : DOp := (1, (0, ([], ())))
def Jjn (_ : Int) (_ : List Ja4) : Bool := true
def Jjo (a : Int) (ps : List Ja4) : DOp := wrO a ps
def Jnx : Bool := true
def Jny : DOp := syO
def K0g (n : Int) : List DOp := if 2 ≤ n ∧ n ≤ 8192 then [wrO 0 (List.replicate n.toNat z16), syO, wrO 0 [Jhe], syO] else []
def fmtL (n : Int) : Jf5 := if 2 ≤ n ∧ n ≤ 8192 then (1, (0, (n, ()))) else Kr0
def fmtE (n : Int) : Int := if 2 ≤ n ∧ n ≤ 8192 then 0 else 2
def J2z (_ : Int) : Bool := true
def Jib (n : Int) : Jf5 := fmtL n
def Jeh (n : Int) : List DOp := K0g n
def Jmm (n : Int) : Int := fmtE n
def appE (l : Jf5) (b : Bys) : Int := if J5w l = 0 then (if b.length > 65536 then 5 else if l.2.2.1 - l.1 < Jas b.length + 1 then 11 else 0) else J5w l
def Juu (l : Jf5) (b : Bys) : List DOp := (if b = [] then [] else [wrO l.1 (Jcs b), syO]) ++ [wrO (l.1 + Jas b.length) [Jrt b (l.2.1 + 1).toNat], syO]
def K0h (l : Jf5) (b : Bys) : List DOp := if appE l b = 0 then Juu l b else []
def K1q (l : Jf5) (b : Bys) : Jf5 := (l.1 + Jas b.length + 1, (l.2.1 + 1, (l.2.2.1, ())))
def K5k (l : Jf5) (b : Bys) : Jf5 := if appE l b = 0 then K1q l b else Kr0
def Jvw (_ : Jf5) (_ : Bys) : Bool := true
def Jmn (l : Jf5) (b : Bys) : Jf5 := K5k l b
def Jmo (l : Jf5) (b : Bys) : List DOp := K0h l b
def Jmp (l : Jf5) (b : Bys) : Int := appE l b
def Jet (p : Ja4) : Bool := decide ((p.getD 0 0).toNat = 1)
def Jhf (ps : List Ja4) : Bys := ps.flatMap fun p => (p.drop 1).take 15
def Kr2 (b : Bys) (_ : Nat) : Bool := decide (b.length ≤ 1000000000)
def Jkt (b : Bys) : Bool := b.any fun x => decide (x.toNat ≠ 0)
def Kr3 (b : Bys) (_ : Nat) : Bool := Jkt b
def Jsn (p : Ja4) (num : Int) (k : Nat) (pay : Bys) : Bool :=
 decide ((p.getD 0 0).toNat = 2 ∧ (fld p 1 4 : Int) = num ∧ fld p 5 3 = k ∧ fld p 8 4 ≤ 65536 ∧ Jas (fld p 8 4) = k) && (!Jkt (pay.drop (fld p 8 4)) && decide (fld p 12 4 = Kv8 (pay.take (fld p 8 4))))
def Jx2 (l : List Ja4) (num : Int) : Option (Bys × List Ja4) :=
 match l.dropWhile Jet with
 | [] => none
 | p :: r => if Jsn p num (l.takeWhile Jet).length (Jhf (l.takeWhile Jet)) then some ((Jhf (l.takeWhile Jet)).take (fld p 8 4), r) else none
def Ji6 : Nat → List Ja4 → Int → List Bys × List Ja4
 | 0, l, _ => ([], l)
 | n + 1, l, num => match Jx2 l num with
  | none => ([], l)
  | some (b, r) => (b :: (Ji6 n r (num + 1)).1, (Ji6 n r (num + 1)).2)
def J5x (l : List Ja4) (first : Int) : List Bys × List Ja4 := if 1 ≤ first ∧ first ≤ 8192 then Ji6 l.length l first else ([], l)
def Jp8 (l : List Ja4) : Bool := l.all fun p => decide (p.length = 16)
def Jx3 (l : List Ja4) (_ : Int) : Bool := decide (l.length ≤ 1000000) && Jp8 l
def Jvx (l : List Ja4) (first : Int) : List Bys := (J5x l first).1
def Jjp (l : List Ja4) (first : Int) : Int := (l.length : Int) - ((J5x l first).2.length : Int)
def opE (d : DK) : Int := if Kpe d = 0 then (if d.1.length < 2 then 2 else if (Jut d).getD 0 z16 = Jhe then 0 else 3) else Kpe d
def opL (d : DK) : Jf5 := if opE d = 0 then (1 + Jjp (Jut d).tail 1, (((J5x (Jut d).tail 1).1.length : Int), ((d.1.length : Int), ()))) else Kr0
def opB (d : DK) : List Bys := if opE d = 0 then (J5x (Jut d).tail 1).1 else []
def K8e (d : DK) : Bool := Jp8 d.1 && d.2.1.all fun p => decide (p.2.1.length = 16)
def Ji7 (d : DK) : Bool := Jlr d && K8e d
def Jnz (d : DK) : Jf5 := opL d
def Jlv (d : DK) : List Bys := opB d
def Jlw (d : DK) : Int := opE d
end Go.AI
namespace Go.AI
open Go
abbrev Rec := Int × (List UInt8 × Unit)
def Jku (r : Rec) : Int := if 1 ≤ r.1 ∧ r.1 ≤ 4 then (if r.2.1.length > 65536 then 5 else 0) else 1
def Kt2 : List Rec → Int
 | [] => 0
 | r :: l => if Jku r = 0 then Kt2 l else Jku r
def Kpk (l : List Rec) : Int := if l.length > 1024 then 6 else Kt2 l
def Jl8 (r : Rec) : List UInt8 := J5t (Jfx r.1) ++ (J5t (Jfx r.2.1.length) ++ r.2.1)
def Jx4 (l : List Rec) : List UInt8 := J5t (Jfx l.length) ++ l.flatMap Jl8
def Kfh (l : List Rec) : Int := if Kpk l = 0 then (if (Jx4 l).length > 65536 then 5 else 0) else Kpk l
def encV (l : List Rec) : List UInt8 := if Kfh l = 0 then Jx4 l else []
def K3u : Nat → List UInt8 → List Rec → List Rec × Int
 | 0, b, out => if b.length = 0 then (out, 0) else ([], 3)
 | n + 1, b, out => if (Jb0 b).2.2 ≠ 0 then ([], (Jb0 b).2.2) else if 1 ≤ (Jb0 b).1 ∧ (Jb0 b).1 ≤ 4 then
   (if (Jby (Jb0 b).2.1).2.2 ≠ 0 then ([], (Jby (Jb0 b).2.1).2.2) else K3u n (Jby (Jb0 b).2.1).2.1 (out ++ [((Jb0 b).1, ((Jby (Jb0 b).2.1).1, ()))]))
  else ([], 1)
def Kkw (b : List UInt8) : List Rec × Int :=
 if b.length > 65536 then ([], 5) else if (Jb0 b).2.2 ≠ 0 then ([], (Jb0 b).2.2) else if (Jb0 b).1 > 1024 then ([], 6) else K3u (Jb0 b).1.toNat (Jb0 b).2.1 []
def Jru (_ : List Rec) : Bool := true
def Jlx (l : List Rec) : Int := Kpk l
def Jn0 (b : List UInt8) (_ : Nat) (x : Int) : Bool := Jfy b x
def Ji8 (b : List UInt8) (_ : Nat) (x : Int) : List UInt8 := Jjh b x
def Jt1 (b : List UInt8) (_ : Nat) (x : List UInt8) : Bool := Jeg b x
def Jp9 (b : List UInt8) (_ : Nat) (x : List UInt8) : List UInt8 := Jhp b x
def Jvy (_ : List Rec) : Bool := true
def Jcw (l : List Rec) : List UInt8 := encV l
def Jj2 (l : List Rec) : Int := Kfh l
def Jiw (_ : List UInt8) : Bool := true
def Jei (b : List UInt8) : List Rec := (Kkw b).1
def Jej (b : List UInt8) : Int := (Kkw b).2
def K7i (l : List Rec) : Bool := l.all (fun r => decide (r.2.1.length ≤ 300)) && decide (l.length ≤ 60)
def Kpl (_ : List Rec) : Bool := true
def Kfi (l : List Rec) : Bool := K7i l
def K0i (l : List Rec) : Bool := decide (l.length ≤ 1000000000000)
def Kak (a b : List Rec) : Bool := K0i a && K0i b
def J20 (a b : List Rec) : Bool := decide (a = b)
def Kfj (l : List (List Rec)) : Bool := decide (l.length ≤ 1000000000000) && l.all K0i
def Jek (a b : List (List Rec)) : Bool := Kfj a && Kfj b
def Jel (a b : List (List Rec)) : Bool := decide (a = b)
end Go.AI
namespace Go.AI
open Go
def Kkx (key : Bys) (c : Int) (l : List Rec) : Int := if Kfh l = 0 then (if key = [] then 0 else Kku key c (Jx4 l)) else Kfh l
def J5y (key : Bys) (c : Int) (l : List Rec) : Bys := if key = [] then Jx4 l else Kkv key c (Jx4 l)
def Kfk (l : Jf5) (key : Bys) (recs : List Rec) : Int := if J5w l = 0 then (if Kkx key (l.2.1 + 1) recs = 0 then appE l (J5y key (l.2.1 + 1) recs) else Kkx key (l.2.1 + 1) recs) else J5w l
def K3v (l : Jf5) (key : Bys) (recs : List Rec) : Jf5 := if J5w l = 0 ∧ Kkx key (l.2.1 + 1) recs = 0 then K5k l (J5y key (l.2.1 + 1) recs) else Kr0
def J7z (l : Jf5) (key : Bys) (recs : List Rec) : List DOp := if J5w l = 0 ∧ Kkx key (l.2.1 + 1) recs = 0 then K0h l (J5y key (l.2.1 + 1) recs) else []
def Jvz (_ : Jf5) (_ : Bys) (_ : List Rec) : Bool := true
def Je4 (l : Jf5) (key : Bys) (recs : List Rec) : Jf5 := K3v l key recs
def Jac (l : Jf5) (key : Bys) (recs : List Rec) : List DOp := J7z l key recs
def Jmq (l : Jf5) (key : Bys) (recs : List Rec) : Int := Kfk l key recs
def unB (key : Bys) (i : Int) (b : Bys) : List Rec × Int := if key = [] then Kkw b else if Kai key i b = 0 then Kkw (K3s key i b) else ([], Kai key i b)
def Kfl (key : Bys) : Int → List Bys → List (List Rec) → List (List Rec) × Int
 | _, [], out => (out, 0)
 | i, b :: bs, out => if (unB key i b).2 = 0 then Kfl key (i + 1) bs (out ++ [(unB key i b).1]) else ([], (unB key i b).2)
def Kpm (d : DK) (key : Bys) : Int := if opE d = 0 then (if key.length > 64 then 1 else (Kfl key 1 (opB d) []).2) else opE d
def K0j (d : DK) (key : Bys) : List (List Rec) := if Kpm d key = 0 then (Kfl key 1 (opB d) []).1 else []
def Kt3 (d : DK) (key : Bys) : Jf5 := if Kpm d key = 0 then opL d else Kr0
def Jkv (d : DK) (_ : Bys) : Bool := Ji7 d
def Jbt (d : DK) (key : Bys) : Jf5 := Kt3 d key
def Jbk (d : DK) (key : Bys) : List (List Rec) := K0j d key
def Jic (d : DK) (key : Bys) : Int := Kpm d key
def wR (r : List Rec) : Nat := (r.map fun x => 20 + x.2.1.length).sum
def wS (l : List (List Rec)) : Nat := (l.map wR).sum
def begT (n : Nat) : DK := (Jhe :: List.replicate (n - 1) z16, ([], ()))
end Go.AI
namespace Go.AI
open Go
abbrev CrT := List UInt8 × (List Int × Unit)
abbrev TcT := List Rec × (Bool × (UInt8 × Unit))
abbrev TlT := DK × (Jf5 × (List (List Rec) × Unit))
def J1c : Bool := true
def Jfg : DK := begT 200
def Jd1 : Jf5 := (1, (0, (200, ())))
def Jv0 : Bool := true
def Jfh : Bool := true
def Jfi : Bool := true
def Jx5 (_ : List (List Rec)) : Bool := true
def Jj3 (l : List (List Rec)) : Bool := l.all K7i && decide (l.length ≤ 12)
def K8f (s : TlT) (key : Bys) (x : TcT) : List DOp := J7z s.2.1 key x.1
def hK (s : TlT) (key : Bys) (x : TcT) : Int := Jhk (Jl6 x.2.2.1) (Jat (((K8f s key x).length : Nat) : Int) 1)
def hI (s : TlT) (key : Bys) (x : TcT) (ch : List Int) : DK × (List Int × Int) := Kkr s.1 (K8f s key x) (hK s key x) ch
def hC (s : TlT) (key : Bys) (x : TcT) (ch : List Int) : TlT × (List Int × Bool) :=
 if Kfk s.2.1 key x.1 ≠ 0 then (s, (ch, decide (Kfk s.2.1 key x.1 = 11)))
 else if x.2.1 = false then (((Jo3 s.1 (K8f s key x)).1, (K3v s.2.1 key x.1, (s.2.2.1 ++ [x.1], ()))), (ch, decide ((Jo3 s.1 (K8f s key x)).2.2 = 0)))
 else if (hI s key x ch).2.2 ≠ 0 ∨ Kpm (hI s key x ch).1 key ≠ 0 then (s, ((hI s key x ch).2.1, false))
 else if K0j (hI s key x ch).1 key = s.2.2.1 ++ [x.1] ∧ hK s key x > 0 ∧ Kt3 (hI s key x ch).1 key = K3v s.2.1 key x.1 then (((hI s key x ch).1, (Kt3 (hI s key x ch).1 key, (s.2.2.1 ++ [x.1], ()))), ((hI s key x ch).2.1, true))
 else (((hI s key x ch).1, (Kt3 (hI s key x ch).1 key, (s.2.2.1, ()))), ((hI s key x ch).2.1, decide (K0j (hI s key x ch).1 key = s.2.2.1 ∧ hK s key x < (K8f s key x).length ∧ Kt3 (hI s key x ch).1 key = s.2.1)))
end Go.AI
