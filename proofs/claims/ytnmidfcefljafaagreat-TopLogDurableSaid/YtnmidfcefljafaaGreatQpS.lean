/- Texts of the proof, joined: DiskS DigestS WireS CipherS LogS TransS TransK TopS. Names of our own are shortened by program; the long ones stand in wip/. -/
import Derived.Test.YtnmidfcefljafaaGreatQpA5
namespace Go.AI
abbrev ZB := List UInt8
abbrev ZW := List UInt32
abbrev ZR := (Int × ((List UInt8) × Unit))
abbrev ZD := ((List (List UInt8)) × ((List ZR) × Unit))
abbrev ZL := (Int × (Int × (Int × Unit)))
abbrev ZH := ((List UInt32) × ((List UInt8) × (Int × Unit)))
end Go.AI
namespace Go.AI
open Go
abbrev Ja4 := List UInt8
abbrev Jlz := Int × (Ja4 × Unit)
abbrev DK := List Ja4 × (List Jlz × Unit)
abbrev DOp := Int × (Int × (List Ja4 × Unit))
def dk0 : DK := ([], ([], ()))
def Kq1 (s : List Ja4) (l : List Jlz) : List Ja4 := l.foldl (fun o p => o.set p.1.toNat p.2.1) s
def Ju8 (d : DK) : List Ja4 := Kq1 d.1 d.2.1
def okP (n : Nat) (l : List Jlz) : Bool := l.all fun p => decide (0 ≤ p.1 ∧ p.1 < (n : Int))
def okD (d : DK) : Bool := decide (1 ≤ d.1.length ∧ d.1.length ≤ 8192) && okP d.1.length d.2.1
def Kq2 (d : DK) : Int := if okD d then 0 else 2
def Kbm (d : DK) (at_ n : Int) : Bool := decide (0 ≤ at_ ∧ 0 ≤ n ∧ at_ + n ≤ d.1.length)
def wrS (at_ : Int) : List Ja4 → List Jlz
 | [] => []
 | p :: l => (at_, (p, ())) :: wrS (at_ + 1) l
def Jjo (d : DK) (op : DOp) : DK × Int :=
 if op.1 = 0 then (if Kbm d op.2.1 op.2.2.1.length then ((d.1, (d.2.1 ++ wrS op.2.1 op.2.2.1, ())), 0) else (dk0, 2))
 else if op.1 = 1 then ((Ju8 d, ([], ())), 0) else (dk0, 1)
def goD (d : DK) : List DOp → Int → DK × (Int × Int)
 | [], i => (d, (i, 0))
 | op :: l, i => if (Jjo d op).2 = 0 then goD (Jjo d op).1 l (i + 1) else (dk0, (i, (Jjo d op).2))
def Jn4 (d : DK) (l : List DOp) : DK × (Int × Int) := if okD d then goD d l 0 else (dk0, (0, 2))
def Kbn (l : List DOp) : Nat := (l.map fun op => op.2.2.1.length).sum
def Jl0 (d : DK) : Bool := decide (d.1.length ≤ 1000000 ∧ d.2.1.length ≤ 100000000)
def K9e (ch : List Int) (n : Nat) : Int := match ch with
 | [] => 0
 | c :: _ => c % n
def Jhn : List Jlz → List Int → List Int
 | [], _ => []
 | p :: l, seen => if seen.contains p.1 then Jhn l seen else p.1 :: Jhn l (p.1 :: seen)
def Kl2 (d : DK) (at_ : Int) : List Ja4 := d.1.getD at_.toNat z16 :: (d.2.1.filter fun p => p.1 == at_).map fun p => p.2.1
def J3p (d : DK) (s : List Int × List Ja4) (at_ : Int) : List Int × List Ja4 :=
 (s.1.tail, s.2.set at_.toNat ((Kl2 d at_).getD (K9e s.1 (Kl2 d at_).length).toNat z16))
def K97 (d : DK) (ch : List Int) : List Int × List Ja4 := (Jhn d.2.1 []).foldl (J3p d) (ch, d.1)
def Jtb (d : DK) (ch : List Int) : DK × (List Int × Int) := if okD d then (((K97 d ch).2, ([], ())), ((K97 d ch).1, 0)) else (dk0, ([], 2))
def Kvw (d : DK) (l : List DOp) (after : Int) (ch : List Int) : DK × (List Int × Int) :=
 if okD d then (if 0 ≤ after ∧ after ≤ l.length then (if (Jn4 d (l.take after.toNat)).2.2 = 0 then Jtb (Jn4 d (l.take after.toNat)).1 ch else (dk0, ([], (Jn4 d (l.take after.toNat)).2.2))) else (dk0, ([], 2))) else (dk0, ([], 2))
def Jho (s : List Ja4) : Bool := decide (s.length ≤ 2000000000)
def Jn5 (s : List Ja4) : List Ja4 := s
def Jv6 (s : List Jlz) : Bool := decide (s.length ≤ 2000000000)
def J1y (s : List Jlz) : List Jlz := s
def J3q (s : List Int) : Bool := decide (s.length ≤ 2000000000)
def Kbo (s : List Int) : List Int := s
def Jye (d : DK) (_ _ : Int) : Bool := Jl0 d
def Jqd (d : DK) (at_ n : Int) : Bool := Kbm d at_ n
def Kx0 (_ : Int) : Bool := true
def K5n (n : Int) : DK := if 1 ≤ n ∧ n ≤ 8192 then (List.replicate n.toNat z16, ([], ())) else dk0
def newE (n : Int) : Int := if 1 ≤ n ∧ n ≤ 8192 then 0 else 2
def Jkz (n : Int) : DK := K5n n
def J3r (n : Int) : Int := newE n
def Jip (d : DK) : Bool := Jl0 d
def Jes (d : DK) : Int := Kq2 d
def Jg3 (d : DK) : Bool := Jl0 d && okP d.1.length d.2.1
def Jia (d : DK) : List Ja4 := Ju8 d
def K3o (d : DK) (at_ n : Int) : List Ja4 := if okD d && Kbm d at_ n then ((Ju8 d).drop at_.toNat).take n.toNat else []
def Ktr (d : DK) (at_ n : Int) : Int := if okD d && Kbm d at_ n then 0 else 2
def Kbp (d : DK) (_ _ : Int) : Bool := Jl0 d
def Jd1 (d : DK) (at_ n : Int) : List Ja4 := K3o d at_ n
def Jr2 (d : DK) (at_ n : Int) : Int := Ktr d at_ n
def Kts (d : DK) (l : List DOp) : Bool := decide (d.1.length ≤ 1000000 ∧ d.2.1.length ≤ 10000000 ∧ l.length ≤ 1000000 ∧ Kbn l ≤ 10000000)
def J3s (d : DK) (l : List DOp) : Bool := Kts d l
def Jib (d : DK) (l : List DOp) : DK := (Jn4 d l).1
def Kl3 (d : DK) (l : List DOp) : Int := (Jn4 d l).2.1
def Jn6 (d : DK) (l : List DOp) : Int := (Jn4 d l).2.2
def Jqe (_ : List Int) (n : Int) : Bool := decide (1 ≤ n ∧ n ≤ 1000000000)
def Jic (ch : List Int) (n : Int) : Int := K9e ch n.toNat
def Jmu (ch : List Int) (_ : Int) : List Int := ch.tail
def Jv7 (d : DK) (ch : List Int) : Bool := Jl0 d && decide (ch.length ≤ 1000000000)
def Jqf (d : DK) (ch : List Int) : DK := (Jtb d ch).1
def Jqg (d : DK) (ch : List Int) : List Int := (Jtb d ch).2.1
def Jqh (d : DK) (ch : List Int) : Int := (Jtb d ch).2.2
def K7e (d : DK) (l : List DOp) (ch : List Int) : Bool := Kts d l && decide (ch.length ≤ 1000000000)
def Jqi (d : DK) (l : List DOp) (_ : Int) (ch : List Int) : Bool := K7e d l ch
def Jaj (d : DK) (l : List DOp) (after : Int) (ch : List Int) : DK := (Kvw d l after ch).1
def Jbq (d : DK) (l : List DOp) (after : Int) (ch : List Int) : List Int := (Kvw d l after ch).2.1
def Jjp (d : DK) (l : List DOp) (after : Int) (ch : List Int) : Int := (Kvw d l after ch).2.2
end Go.AI
namespace Go.AI
open Go
def ror (x : UInt32) (n : Int) : UInt32 := orW (Jr1 x n) (Jxv x (Jdo 32 n))
def bs0 (a : UInt32) : UInt32 := Jmf (Jmf (ror a 2) (ror a 13)) (ror a 22)
def bs1 (e : UInt32) : UInt32 := Jmf (Jmf (ror e 6) (ror e 11)) (ror e 25)
def ss0 (x : UInt32) : UInt32 := Jmf (Jmf (ror x 7) (ror x 18)) (Jr1 x 3)
def ss1 (x : UInt32) : UInt32 := Jmf (Jmf (ror x 17) (ror x 19)) (Jr1 x 10)
def chW (e f g : UInt32) : UInt32 := Jmf (J3m e f) (J3m (K3m e) g)
def maW (a b c : UInt32) : UInt32 := Jmf (Jmf (J3m a b) (J3m a c)) (J3m b c)
def Ktt (b : List UInt8) (t : Nat) : UInt32 :=
 orW (Jxv (orW (Jxv (orW (Jxv (orW (Jxv 0 8) (Jxw (b.getD (4 * t) 0))) 8) (Jxw (b.getD (4 * t + 1) 0))) 8) (Jxw (b.getD (4 * t + 2) 0))) 8) (Jxw (b.getD (4 * t + 3) 0))
def Ktu (w : List UInt32) : List UInt32 := w.tail ++ [Jc0 (Jc0 (Jc0 (w.getD 0 0) (ss0 (w.getD 1 0))) (w.getD 9 0)) (ss1 (w.getD 14 0))]
def win (b : List UInt8) : Nat → List UInt32
 | 0 => (List.range 16).map (Ktt b)
 | t + 1 => Ktu (win b t)
def wd (b : List UInt8) (t : Nat) : UInt32 := (win b t).getD 0 0
def n8 (s : List UInt32) : List UInt32 := [s.getD 0 0, s.getD 1 0, s.getD 2 0, s.getD 3 0, s.getD 4 0, s.getD 5 0, s.getD 6 0, s.getD 7 0]
def rnd (k w : UInt32) (x : List UInt32) : List UInt32 :=
 let t1 := Jc0 (Jc0 (Jc0 (Jc0 (x.getD 7 0) (bs1 (x.getD 4 0))) (chW (x.getD 4 0) (x.getD 5 0) (x.getD 6 0))) k) w
 let t2 := Jc0 (bs0 (x.getD 0 0)) (maW (x.getD 0 0) (x.getD 1 0) (x.getD 2 0))
 [Jc0 t1 t2, x.getD 0 0, x.getD 1 0, x.getD 2 0, Jc0 (x.getD 3 0) t1, x.getD 4 0, x.getD 5 0, x.getD 6 0]
def kN : List Nat := [1116352408, 1899447441, 3049323471, 3921009573, 961987163, 1508970993, 2453635748, 2870763221, 3624381080, 310598401, 607225278, 1426881987, 1925078388, 2162078206, 2614888103, 3248222580, 3835390401, 4022224774, 264347078, 604807628, 770255983, 1249150122, 1555081692, 1996064986, 2554220882, 2821834349, 2952996808, 3210313671, 3336571891, 3584528711, 113926993, 338241895, 666307205, 773529912, 1294757372, 1396182291, 1695183700, 1986661051, 2177026350, 2456956037, 2730485921, 2820302411, 3259730800, 3345764771, 3516065817, 3600352804, 4094571909, 275423344, 430227734, 506948616, 659060556, 883997877, 958139571, 1322822218, 1537002063, 1747873779, 1955562222, 2024104815, 2227730452, 2361852424, 2428436474, 2756734187, 3204031479, 3329325298]
def kW : List UInt32 := [1116352408, 1899447441, 3049323471, 3921009573, 961987163, 1508970993, 2453635748, 2870763221, 3624381080, 310598401, 607225278, 1426881987, 1925078388, 2162078206, 2614888103, 3248222580, 3835390401, 4022224774, 264347078, 604807628, 770255983, 1249150122, 1555081692, 1996064986, 2554220882, 2821834349, 2952996808, 3210313671, 3336571891, 3584528711, 113926993, 338241895, 666307205, 773529912, 1294757372, 1396182291, 1695183700, 1986661051, 2177026350, 2456956037, 2730485921, 2820302411, 3259730800, 3345764771, 3516065817, 3600352804, 4094571909, 275423344, 430227734, 506948616, 659060556, 883997877, 958139571, 1322822218, 1537002063, 1747873779, 1955562222, 2024104815, 2227730452, 2361852424, 2428436474, 2756734187, 3204031479, 3329325298]
def rds (b : List UInt8) (s : List UInt32) : Nat → List UInt32
 | 0 => n8 s
 | t + 1 => rnd (kW.getD t 0) (wd b t) (rds b s t)
def add8 (x s : List UInt32) : List UInt32 := [Jc0 (x.getD 0 0) (s.getD 0 0), Jc0 (x.getD 1 0) (s.getD 1 0), Jc0 (x.getD 2 0) (s.getD 2 0), Jc0 (x.getD 3 0) (s.getD 3 0), Jc0 (x.getD 4 0) (s.getD 4 0), Jc0 (x.getD 5 0) (s.getD 5 0), Jc0 (x.getD 6 0) (s.getD 6 0), Jc0 (x.getD 7 0) (s.getD 7 0)]
def K98 (s : List UInt32) (b : List UInt8) : List UInt32 := add8 (rds b s 64) s
def Kvx (x n : Nat) : Nat := (x >>> n) ||| ((x <<< (32 - n)) % 4294967296)
def bs0N (a : Nat) : Nat := Kvx a 2 ^^^ Kvx a 13 ^^^ Kvx a 22
def bs1N (e : Nat) : Nat := Kvx e 6 ^^^ Kvx e 11 ^^^ Kvx e 25
def ss0N (x : Nat) : Nat := Kvx x 7 ^^^ Kvx x 18 ^^^ (x >>> 3)
def ss1N (x : Nat) : Nat := Kvx x 17 ^^^ Kvx x 19 ^^^ (x >>> 10)
def chN (e f g : Nat) : Nat := (e &&& f) ^^^ ((4294967295 - e) &&& g)
def maN (a b c : Nat) : Nat := (a &&& b) ^^^ (a &&& c) ^^^ (b &&& c)
def wdN (b : List Nat) (t : Nat) : Nat := b.getD (4 * t) 0 * 16777216 + b.getD (4 * t + 1) 0 * 65536 + b.getD (4 * t + 2) 0 * 256 + b.getD (4 * t + 3) 0
def K7f (w : List Nat) : List Nat := w.tail ++ [(w.getD 0 0 + ss0N (w.getD 1 0) + w.getD 9 0 + ss1N (w.getD 14 0)) % 4294967296]
def rdsN : List Nat → List Nat → Nat → Nat → Nat → Nat → Nat → Nat → Nat → Nat → List Nat
 | [], _, a, b, c, d, e, f, g, h => [a, b, c, d, e, f, g, h]
 | k :: ks, w, a, b, c, d, e, f, g, h =>
  let t1 := h + bs1N e + chN e f g + k + w.getD 0 0
  rdsN ks (K7f w) ((t1 + (bs0N a + maN a b c)) % 4294967296) a b c ((d + t1) % 4294967296) e f g
def K5o (s : List UInt32) (b : List UInt8) : List UInt32 :=
 let n := s.map UInt32.toNat
 let x := rdsN kN ((List.range 16).map (wdN (b.map UInt8.toNat))) (n.getD 0 0) (n.getD 1 0) (n.getD 2 0) (n.getD 3 0) (n.getD 4 0) (n.getD 5 0) (n.getD 6 0) (n.getD 7 0)
 [UInt32.ofNat (x.getD 0 0 + n.getD 0 0), UInt32.ofNat (x.getD 1 0 + n.getD 1 0), UInt32.ofNat (x.getD 2 0 + n.getD 2 0), UInt32.ofNat (x.getD 3 0 + n.getD 3 0), UInt32.ofNat (x.getD 4 0 + n.getD 4 0), UInt32.ofNat (x.getD 5 0 + n.getD 5 0), UInt32.ofNat (x.getD 6 0 + n.getD 6 0), UInt32.ofNat (x.getD 7 0 + n.getD 7 0)]
def Kx1 : Nat → List UInt32 → List UInt8 → List UInt32
 | 0, s, _ => s
 | n + 1, s, l => Kx1 n (K5o s (l.take 64)) (l.drop 64)
abbrev HH := List UInt32 × List UInt8 × Int × Unit
def wrH (h : HH) (b : List UInt8) : HH := let l := h.2.1 ++ b; (Kx1 (l.length / 64) h.1 l, l.drop (64 * (l.length / 64)), h.2.2.1 + b.length, ())
def K3p : HH := ([1779033703, 3144134277, 1013904242, 2773480762, 1359893119, 2600822924, 528734635, 1541459225], [], 0, ())
def be8 (n : Nat) : List UInt8 := (List.range 8).map fun i => UInt8.ofNat (n / 2 ^ (56 - 8 * i) % 256)
def padH (h : HH) : List UInt8 := 128 :: (List.replicate ((119 - h.2.1.length) % 64) 0 ++ be8 (8 * h.2.2.1.toNat))
def outH (s : List UInt32) : List UInt8 := (List.range 32).map fun i => J3n (Jr1 (s.getD (i / 4) 0) (24 - 8 * (i % 4 : Nat)))
def finH (h : HH) : List UInt8 := outH (wrH h (padH h)).1
def K5p (b : List UInt8) : List UInt8 := finH (wrH K3p b)
def okH (h : HH) : Bool := decide (h.1.length = 8 ∧ h.2.1.length ≤ 1000 ∧ 0 ≤ h.2.2.1 ∧ h.2.2.1 ≤ 1152921504606846976)
def Kvy (k : List UInt8) (x : UInt8) : List UInt8 := let l := (if k.length > 64 then K5p k else k); (l ++ List.replicate (64 - l.length) 0).map fun b => J6p b x
def K99 (k b : List UInt8) : List UInt8 := K5p (Kvy k 92 ++ K5p (Kvy k 54 ++ b))
def K7g (a b : List UInt8) : List UInt8 := List.zipWith J6p a b
def Jtc (_ : UInt32) (n : Int) : Bool := decide (0 ≤ n ∧ n ≤ 32)
def J3t (x : UInt32) (n : Int) : UInt32 := ror x n
def K3q (_ : UInt32) (n : Int) : Bool := decide (0 ≤ n)
def K7h (x : UInt32) (n : Int) : UInt32 := Jr1 x n
def Jfi (_ : UInt32) (a b c : Int) (l : Nat) : Bool := decide (0 ≤ a ∧ a ≤ 32 ∧ 0 ≤ b ∧ b ≤ 32 ∧ 0 ≤ c ∧ c ≤ 32) && (l == 169 || l == 177)
def Jd9 (x : UInt32) (a b c : Int) (l : Nat) : UInt32 := Jmf (Jmf (ror x a) (ror x b)) (bif l == 169 then ror x c else Jr1 x c)
def J1z : Bool := true
def Kbq : List UInt32 := kW
def Jv8 (s : List UInt32) (b : List UInt8) : Bool := decide (s.length = 8 ∧ 64 ≤ b.length)
def Kbr (s : List UInt32) (b : List UInt8) : List UInt32 := K5o s (b.take 64)
def Jz2 : Bool := true
def Jf5 : HH := K3p
def Jd2 (h : HH) (b : List UInt8) : Bool := okH h && decide (b.length ≤ 1000000000)
def Jcs (h : HH) (b : List UInt8) : HH := wrH h b
def Jf8 (h : HH) : Bool := okH h && decide (h.2.1.length < 64)
def Jiy (h : HH) : List UInt8 := finH h
def Kgo (b : List UInt8) : Bool := decide (b.length ≤ 1000000000)
def Jtd (b : List UInt8) : List UInt8 := K5p b
def Jr3 (k : List UInt8) (_ : UInt8) : Bool := decide (k.length ≤ 1000000000)
def Jeb (k : List UInt8) (x : UInt8) : List UInt8 := Kvy k x
def Jqj (k b : List UInt8) : Bool := decide (k.length ≤ 1000000000 ∧ b.length ≤ 100000000)
def Jz3 (k b : List UInt8) : List UInt8 := K99 k b
end Go.AI
namespace Go.AI
open Go
def Kq3 : Int := 9007199254740991
def Jfy (n : Int) : Int := bif decide (n < 0) then 0 else bif decide (n > 9007199254740991) then 0 else n
def fur (m : Int) : Int :=
 if m < 128 then 0 else if m < 16384 then 1 else if m < 2097152 then 2 else if m < 268435456 then 3 else if m < 34359738368 then 4
 else if m < 4398046511104 then 5 else if m < 562949953421312 then 6 else 7
def Kq4 (m : Nat) : Nat → List UInt8
 | 0 => []
 | k + 1 => UInt8.ofNat (m / 2 ^ (8 * k) % 256) :: Kq4 m k
def J6z (m : Int) : List UInt8 := UInt8.ofNat (256 - 2 ^ (8 - (fur m).toNat) + m.toNat / 2 ^ (8 * (fur m).toNat)) :: Kq4 m.toNat (fur m).toNat
def J83 (n : Nat) : Nat := if n = 0 then 0 else n.log2 + 1
def J60 (b : UInt8) : Nat := if b < 128 then 0 else if b < 192 then 1 else if b < 224 then 2 else if b < 240 then 3 else if b < 248 then 4 else if b < 252 then 5 else if b < 254 then 6 else if b < 255 then 7 else 8
def Jec (a : Nat) (l : List UInt8) : Nat := l.foldl (fun a c => 256 * a + c.toNat) a
def Jbt : List UInt8 → Int × List UInt8 × Int
 | [] => (0, [], 9)
 | b :: r => if J60 b = 8 then (0, [], 3) else if r.length < J60 b then (0, [], 9)
  else if Kq3 < (Jec (b.toNat - (256 - 2 ^ (8 - J60 b))) (r.take (J60 b)) : Int) ∨ fur (Jec (b.toNat - (256 - 2 ^ (8 - J60 b))) (r.take (J60 b))) ≠ J60 b then (0, [], 3)
  else ((Jec (b.toNat - (256 - 2 ^ (8 - J60 b))) (r.take (J60 b)) : Int), r.drop (J60 b), 0)
def Jgj (src : List UInt8) : Int × List UInt8 × Int :=
 let x := Jbt src
 if x.2.2 = 0 ∧ x.1 > 65536 then (0, [], 5) else x
def Jbm (src : List UInt8) : List UInt8 × List UInt8 × Int :=
 let x := Jgj src
 if x.2.2 ≠ 0 then ([], [], x.2.2) else if (x.2.1.length : Int) < x.1 then ([], [], 9) else (x.2.1.take x.1.toNat, x.2.1.drop x.1.toNat, 0)
def Jl1 (x : Int) : Bool := decide (0 ≤ x ∧ x < 18446744073709551616)
def Jqk (x : Int) : Int := J83 x.toNat
def Jn7 (x : UInt8) : Int := J83 x.toNat
def Jr4 (x : Int) : Bool := decide (0 ≤ x ∧ x < 18446744073709551616)
def Jr5 (x : Int) : Int := J83 x.toNat
def Jay (x : UInt8) : Int := 8 - J83 x.toNat
def Jbz (n : Int) : Int := Jfy n
def Jdm (n : Int) : Bool := decide (0 ≤ n ∧ n ≤ 9007199254740991)
def Jbf (n : Int) : Int := fur n
def Jbh (s : List UInt8) : Bool := decide (s.length ≤ 2000000000)
def Jb7 (s : List UInt8) : List UInt8 := s
def Jka (dst : List UInt8) (n : Int) : Bool := decide (dst.length ≤ 2000000000 ∧ -9223372036854775808 ≤ n ∧ n < 9223372036854775808)
def Jmv (dst : List UInt8) (n : Int) : List UInt8 := dst ++ J6z (Jfy n)
def Jfz (dst : List UInt8) (n : Int) : Bool := decide (dst.length ≤ 2000000000 ∧ -9223372036854775808 ≤ n ∧ n < 9223372036854775808)
def Jjq (dst : List UInt8) (n : Int) : List UInt8 := dst ++ J6z (Jfy n)
def Jei (b : List UInt8) : Bool := decide (b.length ≤ 2000000000)
def Jap (b : List UInt8) : Int := (Jbt b).1
def Jam (b : List UInt8) : List UInt8 := (Jbt b).2.1
def Ja9 (b : List UInt8) : Int := (Jbt b).2.2
def Jej (dst b : List UInt8) : Bool := decide (dst.length + b.length ≤ 1000000000)
def Jhp (dst b : List UInt8) : List UInt8 := dst ++ J6z (Jfy b.length) ++ b
def Jfj (b : List UInt8) : Bool := decide (b.length ≤ 2000000000)
def Jd3 (b : List UInt8) : List UInt8 := (Jbm b).1
def Jd4 (b : List UInt8) : List UInt8 := (Jbm b).2.1
def Jcj (b : List UInt8) : Int := (Jbm b).2.2
end Go.AI
namespace Go.AI
open Go
def K5q (x k : Nat) : Nat := (x * 2 ^ k) % 4294967296 + x / 2 ^ (32 - k)
def Qaa (x : UInt32) (k : Nat) : UInt32 := UInt32.ofNat (K5q x.toNat k)
def stp (w : List UInt32) (t f o k : Nat) : List UInt32 :=
 (w.set t (Jc0 (w.getD t 0) (w.getD f 0))).set o (Qaa (Jmf ((w.set t (Jc0 (w.getD t 0) (w.getD f 0))).getD o 0) ((w.set t (Jc0 (w.getD t 0) (w.getD f 0))).getD t 0)) k)
def qrt (w : List UInt32) (a b c d : Nat) : List UInt32 := stp (stp (stp (stp w a b d 16) c d b 12) a b d 8) c d b 7
def K9f (w : List UInt32) : Nat → List UInt32
 | 0 => w
 | i + 1 => qrt (K9f w i) i (4 + i) (8 + i) (12 + i)
def Qab (w : List UInt32) : Nat → List UInt32
 | 0 => w
 | i + 1 => qrt (Qab w i) i (4 + (i + 1) % 4) (8 + (i + 2) % 4) (12 + (i + 3) % 4)
def K9g (w : List UInt32) : Nat → List UInt32
 | 0 => w
 | n + 1 => Qab (K9f (K9g w n) 4) 4
def kwd (key : List UInt8) (i : Nat) : UInt32 := UInt32.ofNat ((key.getD (4 * i) 0).toNat + 256 * (key.getD (4 * i + 1) 0).toNat + 65536 * (key.getD (4 * i + 2) 0).toNat + 16777216 * (key.getD (4 * i + 3) 0).toNat)
def iniW (key : List UInt8) (nonce counter : Int) : List UInt32 :=
 [1634760805, 857760878, 2036477234, 1797285236, kwd key 0, kwd key 1, kwd key 2, kwd key 3, kwd key 4, kwd key 5, kwd key 6, kwd key 7, Kvv counter, 0, Kvv nonce, Kvv (nonce / 4294967296)]
def le4 (x : UInt32) : List UInt8 := [J3n x, J3n (Jr1 x 8), J3n (Jr1 x 16), J3n (Jr1 x 24)]
def Kl4 (m w : List UInt32) (n : Nat) : List UInt8 := (List.range n).flatMap fun i => le4 (Jc0 (m.getD i 0) (w.getD i 0))
def K2h (key : List UInt8) (nonce counter : Int) : List UInt8 := Kl4 (K9g (iniW key nonce counter) 10) (iniW key nonce counter) 16
def inR (nonce : Int) : Bool := decide (0 ≤ nonce ∧ nonce ≤ 9007199254740991)
def K9h (key : List UInt8) (nonce : Int) : Nat → Nat → List UInt8 → List UInt8
 | 0, _, _ => []
 | n + 1, c, b => K7g (b.take 64) (K2h key nonce c) ++ K9h key nonce n (c + 1) (b.drop 64)
def J0x (key : List UInt8) (nonce : Int) (b : List UInt8) : List UInt8 := K9h key nonce ((b.length + 63) / 64) 1 b
def K2i (nonce : Int) (b : List UInt8) : Int := if (b.length : Int) > 65536 then 5 else if inR nonce then 0 else 2
def strV (key : List UInt8) (nonce : Int) (b : List UInt8) : List UInt8 := if K2i nonce b = 0 then J0x key nonce b else []
def Kkz (k : List UInt8) : List UInt8 := K99 k [101, 110, 99, 114, 121, 112, 116]
def Jpz (k : List UInt8) : List UInt8 := K99 k [97, 117, 116, 104, 101, 110, 116, 105, 99, 97, 116, 101]
def le8 (n : Int) : List UInt8 := (List.range 8).map fun i => UInt8.ofNat (n.toNat / 2 ^ (8 * i) % 256)
def Kx2 (key : List UInt8) (nonce : Int) (b : List UInt8) : List UInt8 := (K99 key (le8 nonce ++ b)).take 16
def J61 (k : List UInt8) : Bool := decide (1 ≤ k.length ∧ k.length ≤ 64)
def Kl5 (k : List UInt8) (nonce : Int) (b : List UInt8) : Int := if J61 k then if (b.length : Int) > 65520 then 5 else if inR nonce then 0 else 2 else 1
def Kq5 (k : List UInt8) (nonce : Int) (b : List UInt8) : List UInt8 := if Kl5 k nonce b = 0 then J0x (Kkz k) nonce b ++ Kx2 (Jpz k) nonce (J0x (Kkz k) nonce b) else []
def Kbs (k : List UInt8) (nonce : Int) (b : List UInt8) : Int := if J61 k then if (b.length : Int) > 65536 then 5 else if inR nonce then if b.length < 16 then 9 else
 if Kx2 (Jpz k) nonce (b.take (b.length - 16)) = b.drop (b.length - 16) then 0 else 25 else 2 else 1
def K5r (k : List UInt8) (nonce : Int) (b : List UInt8) : List UInt8 := if Kbs k nonce b = 0 then J0x (Kkz k) nonce (b.take (b.length - 16)) else []
def Jyf (_ : UInt32) (k : Int) : Bool := k == 7 || k == 8 || k == 12 || k == 16
def J3u (x : UInt32) (k : Int) : UInt32 := Qaa x k.toNat
def J10 (_ : List UInt8) (nonce _ : Int) : Bool := inR nonce
def J11 (key : List UInt8) (nonce counter : Int) : List UInt32 := iniW key nonce counter
def Kq6 (_ : List UInt8) (nonce _ : Int) : Bool := inR nonce
def Kq7 (key : List UInt8) (nonce counter : Int) : List UInt8 := K2h key nonce counter
def Jn8 (nonce : Int) : Bool := inR nonce
def Jk0 (_ : List UInt8) (_ : Int) (_ : List UInt8) : Bool := true
def Jid (key : List UInt8) (nonce : Int) (b : List UInt8) : List UInt8 := strV key nonce b
def Jf0 (_ : List UInt8) (nonce : Int) (b : List UInt8) : Int := K2i nonce b
def Jn9 (k : List UInt8) : Bool := decide (k.length ≤ 1000000000)
def Jfd (k : List UInt8) : List UInt8 := Kkz k
def Jgb (k : List UInt8) : List UInt8 := Jpz k
def Jz4 (key : List UInt8) (nonce : Int) (b : List UInt8) : Bool := inR nonce && decide (key.length = 32 ∧ b.length ≤ 10000000)
def Jz5 (key : List UInt8) (nonce : Int) (b : List UInt8) : List UInt8 := Kx2 key nonce b
def Jk1 (k : List UInt8) : Bool := J61 k
def Kbt (_ : List UInt8) (_ : Int) (_ : List UInt8) : Bool := true
def Joa (k : List UInt8) (nonce : Int) (b : List UInt8) : List UInt8 := Kq5 k nonce b
def Jr6 (k : List UInt8) (nonce : Int) (b : List UInt8) : Int := Kl5 k nonce b
def Jyg (_ : List UInt8) (_ : Int) (_ : List UInt8) : Bool := true
def Jhq (k : List UInt8) (nonce : Int) (b : List UInt8) : List UInt8 := K5r k nonce b
def Jjr (k : List UInt8) (nonce : Int) (b : List UInt8) : Int := Kbs k nonce b
def Jg4 (a b : List UInt8) : Bool := decide (a.length ≤ 1000000000000 ∧ b.length ≤ 1000000000000)
def Jg5 (a b : List UInt8) : Bool := a == b
end Go.AI
namespace Go.AI
open Go
abbrev Jf9 := Int × (Int × (Int × Unit))
abbrev Bys := List UInt8
def Ktv : Jf9 := (0, (0, (0, ())))
def sh1 (r : Nat) : Nat := if r % 2 = 1 then (r / 2) ^^^ 3988292384 else r / 2
def sh8 (r : Nat) : Nat := sh1 (sh1 (sh1 (sh1 (sh1 (sh1 (sh1 (sh1 r)))))))
def Qac (r : Nat) (b : UInt8) : Nat := sh8 (r ^^^ b.toNat)
def crcG (r : Nat) (b : Bys) : Nat := b.foldl Qac r
def Kx3 (b : Bys) : Nat := crcG 4294967295 b ^^^ 4294967295
def Jv9 (_ : UInt32) : Bool := true
def Jiz (r : UInt32) : UInt32 := UInt32.ofNat (sh8 r.toNat)
def J12 : Bool := true
def Jjs : List UInt32 := (List.range 256).map fun i => UInt32.ofNat (sh8 i)
def Kgp (_ : UInt32) (b : Bys) : Bool := decide (b.length ≤ 1000000000)
def Kq8 (s : UInt32) (b : Bys) : UInt32 := UInt32.ofNat (crcG (s.toNat ^^^ 4294967295) b ^^^ 4294967295)
def J84 (b : Bys) : Bool := decide (b.length ≤ 1000000000)
def J85 (b : Bys) : UInt32 := UInt32.ofNat (Kx3 b)
def be : Nat → Nat → Bys
 | 0, _ => []
 | k + 1, n => UInt8.ofNat (n / 256 ^ k) :: be k n
def beV (l : Bys) : Nat := l.foldl (fun n b => 256 * n + b.toNat) 0
def fld (p : Ja4) (a n : Nat) : Nat := beV ((p.drop a).take n)
def Jau (n : Nat) : Nat := (n + 14) / 15
def Jjt (n : Int) : Bool := decide (0 ≤ n ∧ n ≤ 1000000000000)
def Jju (n : Int) : Int := ((Jau n.toNat : Nat) : Int)
def K5s (n : Int) : Int := if 0 ≤ n ∧ n ≤ 65536 then ((Jau n.toNat + 1 : Nat) : Int) else 0
def J13 (_ : Int) : Bool := true
def Jiq (n : Int) : Int := K5s n
def J86 (l : Jf9) : Int := if l.2.2.1 < 2 ∨ l.2.2.1 > 8192 ∨ l.1 < 1 ∨ l.1 > l.2.2.1 then 2 else if l.2.1 < 0 ∨ l.2.1 ≥ l.1 then 3 else 0
def Jjv (l : Jf9) : Int := J86 l
def Jh2 : Ja4 := [3, 99, 111, 109, 112, 97, 99, 116, 111, 114, 32, 108, 111, 103, 32, 49]
def J3v : Bool := true
def Jyh : Ja4 := Jh2
def Jl2 (l : Bys) : Bool := decide (l.length ≤ 7)
def Jb8 (l : Bys) : Int := ((beV l : Nat) : Int)
def Jr7 (b : Bys) (c : Nat) : Ja4 := 2 :: (be 4 c ++ (be 3 (Jau b.length) ++ (be 4 b.length ++ be 4 (Kx3 b))))
def J3w (b : Bys) (c : Int) : Bool := decide (b.length ≤ 1000000000 ∧ 0 ≤ c ∧ c ≤ 1000000000)
def Jwa (b : Bys) (c : Int) : Ja4 := Jr7 b c.toNat
def Ktw (p : Ja4) (a n v : Nat) : Ja4 := p.take a ++ (be n v ++ p.drop (a + n))
def Ke3 : Nat → Bys → List Ja4
 | 0, _ => []
 | k + 1, b => (1 :: (b.take 15 ++ List.replicate (15 - (b.take 15).length) 0)) :: Ke3 k (b.drop 15)
def Jcw (b : Bys) : List Ja4 := Ke3 (Jau b.length) b
def wrO (a : Int) (ps : List Ja4) : DOp := (0, (a, (ps, ())))
def syO : DOp := (1, (0, ([], ())))
def Jjw (_ : Int) (_ : List Ja4) : Bool := true
def Jjx (a : Int) (ps : List Ja4) : DOp := wrO a ps
def Job : Bool := true
def Joc : DOp := syO
def K2j (n : Int) : List DOp := if 2 ≤ n ∧ n ≤ 8192 then [wrO 0 (List.replicate n.toNat z16), syO, wrO 0 [Jh2], syO] else []
def fmtL (n : Int) : Jf9 := if 2 ≤ n ∧ n ≤ 8192 then (1, (0, (n, ()))) else Ktv
def fmtE (n : Int) : Int := if 2 ≤ n ∧ n ≤ 8192 then 0 else 2
def J3x (_ : Int) : Bool := true
def Jie (n : Int) : Jf9 := fmtL n
def Jek (n : Int) : List DOp := K2j n
def Jmw (n : Int) : Int := fmtE n
def appE (l : Jf9) (b : Bys) : Int := if J86 l = 0 then (if b.length > 65536 then 5 else if l.2.2.1 - l.1 < Jau b.length + 1 then 11 else 0) else J86 l
def Ju9 (l : Jf9) (b : Bys) : List DOp := (if b = [] then [] else [wrO l.1 (Jcw b), syO]) ++ [wrO (l.1 + Jau b.length) [Jr7 b (l.2.1 + 1).toNat], syO]
def K2k (l : Jf9) (b : Bys) : List DOp := if appE l b = 0 then Ju9 l b else []
def K3r (l : Jf9) (b : Bys) : Jf9 := (l.1 + Jau b.length + 1, (l.2.1 + 1, (l.2.2.1, ())))
def K7i (l : Jf9) (b : Bys) : Jf9 := if appE l b = 0 then K3r l b else Ktv
def Jwb (_ : Jf9) (_ : Bys) : Bool := true
def Jmx (l : Jf9) (b : Bys) : Jf9 := K7i l b
def Jmy (l : Jf9) (b : Bys) : List DOp := K2k l b
def Jmz (l : Jf9) (b : Bys) : Int := appE l b
def Jet (p : Ja4) : Bool := decide ((p.getD 0 0).toNat = 1)
def Jhg (ps : List Ja4) : Bys := ps.flatMap fun p => (p.drop 1).take 15
def Ktx (b : Bys) (_ : Nat) : Bool := decide (b.length ≤ 1000000000)
def Jk2 (b : Bys) : Bool := b.any fun x => decide (x.toNat ≠ 0)
def Kty (b : Bys) (_ : Nat) : Bool := Jk2 b
def Js1 (p : Ja4) (num : Int) (k : Nat) (pay : Bys) : Bool :=
 decide ((p.getD 0 0).toNat = 2 ∧ (fld p 1 4 : Int) = num ∧ fld p 5 3 = k ∧ fld p 8 4 ≤ 65536 ∧ Jau (fld p 8 4) = k) && (!Jk2 (pay.drop (fld p 8 4)) && decide (fld p 12 4 = Kx3 (pay.take (fld p 8 4))))
def Jyi (l : List Ja4) (num : Int) : Option (Bys × List Ja4) :=
 match l.dropWhile Jet with
 | [] => none
 | p :: r => if Js1 p num (l.takeWhile Jet).length (Jhg (l.takeWhile Jet)) then some ((Jhg (l.takeWhile Jet)).take (fld p 8 4), r) else none
def Jjb : Nat → List Ja4 → Int → List Bys × List Ja4
 | 0, l, _ => ([], l)
 | n + 1, l, num => match Jyi l num with
  | none => ([], l)
  | some (b, r) => (b :: (Jjb n r (num + 1)).1, (Jjb n r (num + 1)).2)
def J62 (l : List Ja4) (first : Int) : List Bys × List Ja4 := if 1 ≤ first ∧ first ≤ 8192 then Jjb l.length l first else ([], l)
def Jql (l : List Ja4) : Bool := l.all fun p => decide (p.length = 16)
def Jyj (l : List Ja4) (_ : Int) : Bool := decide (l.length ≤ 1000000) && Jql l
def Jwc (l : List Ja4) (first : Int) : List Bys := (J62 l first).1
def Jjy (l : List Ja4) (first : Int) : Int := (l.length : Int) - ((J62 l first).2.length : Int)
def opE (d : DK) : Int := if Kq2 d = 0 then (if d.1.length < 2 then 2 else if (Ju8 d).getD 0 z16 = Jh2 then 0 else 3) else Kq2 d
def opL (d : DK) : Jf9 := if opE d = 0 then (1 + Jjy (Ju8 d).tail 1, (((J62 (Ju8 d).tail 1).1.length : Int), ((d.1.length : Int), ()))) else Ktv
def opB (d : DK) : List Bys := if opE d = 0 then (J62 (Ju8 d).tail 1).1 else []
def Qad (d : DK) : Bool := Jql d.1 && d.2.1.all fun p => decide (p.2.1.length = 16)
def Jeu (d : DK) : Bool := Jl0 d && Qad d
def Jod (d : DK) : Jf9 := opL d
def Jl3 (d : DK) : List Bys := opB d
def Jl4 (d : DK) : Int := opE d
end Go.AI
namespace Go.AI
open Go
abbrev Rec := Int × (List UInt8 × Unit)
def Jhr (r : Rec) : Int := if 1 ≤ r.1 ∧ r.1 ≤ 4 then (if r.2.1.length > 65536 then 5 else 0) else 1
def Ktz : List Rec → Int
 | [] => 0
 | r :: l => if Jhr r = 0 then Ktz l else Jhr r
def Ke4 (l : List Rec) : Int := if l.length > 1024 then 6 else Ktz l
def Jmh (r : Rec) : List UInt8 := J6z (Jfy r.1) ++ (J6z (Jfy r.2.1.length) ++ r.2.1)
def Jyk (l : List Rec) : List UInt8 := J6z (Jfy l.length) ++ l.flatMap Jmh
def Ke5 (l : List Rec) : Int := if Ke4 l = 0 then (if (Jyk l).length > 65536 then 5 else 0) else Ke4 l
def encV (l : List Rec) : List UInt8 := if Ke5 l = 0 then Jyk l else []
def Kx4 : Nat → List UInt8 → List Rec → List Rec × Int
 | 0, b, out => if b.length = 0 then (out, 0) else ([], 3)
 | n + 1, b, out => if (Jbt b).2.2 ≠ 0 then ([], (Jbt b).2.2) else if 1 ≤ (Jbt b).1 ∧ (Jbt b).1 ≤ 4 then
   (if (Jbm (Jbt b).2.1).2.2 ≠ 0 then ([], (Jbm (Jbt b).2.1).2.2) else Kx4 n (Jbm (Jbt b).2.1).2.1 (out ++ [((Jbt b).1, ((Jbm (Jbt b).2.1).1, ()))]))
  else ([], 1)
def Kgq (b : List UInt8) : List Rec × Int :=
 if b.length > 65536 then ([], 5) else if (Jbt b).2.2 ≠ 0 then ([], (Jbt b).2.2) else if (Jbt b).1 > 1024 then ([], 6) else Kx4 (Jbt b).1.toNat (Jbt b).2.1 []
def Jr8 (_ : List Rec) : Bool := true
def Jl5 (l : List Rec) : Int := Ke4 l
def Jqm (n : Int) : Int := if 1 ≤ n ∧ n ≤ 4 then 0 else 1
def J14 (_ : List Rec) : Bool := true
def Joe (l : List Rec) : Int := Ke4 l
def Jof (b : List UInt8) (_ : Nat) (x : Int) : Bool := Jfz b x
def Jjc (b : List UInt8) (_ : Nat) (x : Int) : List UInt8 := Jjq b x
def Jug (b : List UInt8) (_ : Nat) (x : List UInt8) : Bool := Jej b x
def Jqn (b : List UInt8) (_ : Nat) (x : List UInt8) : List UInt8 := Jhp b x
def Jwd (_ : List Rec) : Bool := true
def Jc1 (l : List Rec) : List UInt8 := encV l
def Jkb (l : List Rec) : Int := Ke5 l
def Ji0 (_ : List UInt8) : Bool := true
def Jel (b : List UInt8) : List Rec := (Kgq b).1
def Jem (b : List UInt8) : Int := (Kgq b).2
def K9i (l : List Rec) : Bool := l.all (fun r => decide (r.2.1.length ≤ 300)) && decide (l.length ≤ 60)
def Kq9 (_ : List Rec) : Bool := true
def J3y (l : List Rec) : Bool := K9i l
def Kl6 (l : List Rec) : Bool := decide (l.length ≤ 1000000000000)
def Kbu (a b : List Rec) : Bool := Kl6 a && Kl6 b
def J3z (a b : List Rec) : Bool := decide (a = b)
def Jva (l : List (List Rec)) : Bool := decide (l.length ≤ 1000000000000) && l.all Kl6
def Je8 (a b : List (List Rec)) : Bool := Jva a && Jva b
def Je9 (a b : List (List Rec)) : Bool := decide (a = b)
end Go.AI
namespace Go.AI
open Go
def Kra (key : Bys) (c : Int) (l : List Rec) : Int := if Ke5 l = 0 then (if key = [] then 0 else Kl5 key c (Jyk l)) else Ke5 l
def Kbv (key : Bys) (c : Int) (l : List Rec) : Bys := if key = [] then Jyk l else Kq5 key c (Jyk l)
def J6q (l : Jf9) (key : Bys) (recs : List Rec) : Int := if J86 l = 0 then (if Kra key (l.2.1 + 1) recs = 0 then appE l (Kbv key (l.2.1 + 1) recs) else Kra key (l.2.1 + 1) recs) else J86 l
def Kl7 (l : Jf9) (key : Bys) (recs : List Rec) : Jf9 := if J86 l = 0 ∧ Kra key (l.2.1 + 1) recs = 0 then K7i l (Kbv key (l.2.1 + 1) recs) else Ktv
def J30 (l : Jf9) (key : Bys) (recs : List Rec) : List DOp := if J86 l = 0 ∧ Kra key (l.2.1 + 1) recs = 0 then K2k l (Kbv key (l.2.1 + 1) recs) else []
def J31 (_ : Jf9) (_ : Bys) (_ : List Rec) : Bool := true
def Jkc (l : Jf9) (key : Bys) (recs : List Rec) : Jf9 := Kl7 l key recs
def Jac (l : Jf9) (key : Bys) (recs : List Rec) : List DOp := J30 l key recs
def Jm0 (l : Jf9) (key : Bys) (recs : List Rec) : Int := J6q l key recs
def unB (key : Bys) (i : Int) (b : Bys) : List Rec × Int := if key = [] then Kgq b else if Kbs key i b = 0 then Kgq (K5r key i b) else ([], Kbs key i b)
def J87 (key : Bys) : Int → List Bys → List (List Rec) → List (List Rec) × Int
 | _, [], out => (out, 0)
 | i, b :: bs, out => if (unB key i b).2 = 0 then J87 key (i + 1) bs (out ++ [(unB key i b).1]) else ([], (unB key i b).2)
def J63 (d : DK) (key : Bys) : Int := if opE d = 0 then (if key.length > 64 then 1 else (J87 key 1 (opB d) []).2) else opE d
def Js2 (d : DK) (key : Bys) : List (List Rec) := if J63 d key = 0 then (J87 key 1 (opB d) []).1 else []
def Jl6 (d : DK) (key : Bys) : Jf9 := if J63 d key = 0 then opL d else Ktv
def Ji1 (d : DK) (_ : Bys) : Bool := Jeu d
def Jb5 (d : DK) (key : Bys) : Jf9 := Jl6 d key
def Jbg (d : DK) (key : Bys) : List (List Rec) := Js2 d key
def Jg6 (d : DK) (key : Bys) : Int := J63 d key
def wR (r : List Rec) : Nat := (r.map fun x => 20 + x.2.1.length).sum
def okT (r : List Rec) : Bool := K9i r && decide (Ke4 r = 0)
def begT (n : Nat) : DK := (Jh2 :: List.replicate (n - 1) z16, ([], ()))
end Go.AI
namespace Go.AI
open Go
abbrev TcT := List Rec × (Bool × (UInt8 × Unit))
abbrev TlT := DK × (Jf9 × (List (List Rec) × Unit))
def Jqo : Bool := true
def Jen : TlT := (begT 300, ((1, (0, (300, ()))), ([], ())))
def Jm1 : Bool := true
def Jog (s : TlT) (_ : Bys) : Bool := Jeu s.1 && Jva s.2.2.1
def Joh (s : TlT) (key : Bys) : Bool := decide (J63 s.1 key = 0 ∧ Jl6 s.1 key = s.2.1 ∧ Js2 s.1 key = s.2.2.1)
def J15 (_ : List TcT) (_ : Bys) (_ : List Int) : Bool := true
def Jjz (l : List TcT) (key : Bys) (ch : List Int) : Bool := l.all (fun x => okT x.1) && (decide (l.length ≤ 16) && (decide (key.length ≤ 64) && decide (ch.length ≤ 200)))
def Jm2 : Bool := true
def Jm3 : Bool := true
def J64 (s : TlT) (key : Bys) (x : TcT) : List DOp := J30 s.2.1 key x.1
def hK (s : TlT) (key : Bys) (x : TcT) : Int := Jcz (Jfv x.2.2.1) (Jar (((J64 s key x).length : Nat) : Int) 1)
def hI (s : TlT) (key : Bys) (x : TcT) (ch : List Int) : DK × (List Int × Int) := Kvw s.1 (J64 s key x) (hK s key x) ch
def hC (s : TlT) (key : Bys) (x : TcT) (ch : List Int) : TlT × (List Int × Bool) :=
 if J6q s.2.1 key x.1 ≠ 0 then (s, (ch, decide (J6q s.2.1 key x.1 = 11)))
 else if x.2.1 = false then (((Jn4 s.1 (J64 s key x)).1, (Kl7 s.2.1 key x.1, (s.2.2.1 ++ [x.1], ()))), (ch, decide ((Jn4 s.1 (J64 s key x)).2.2 = 0)))
 else if (hI s key x ch).2.2 ≠ 0 ∨ J63 (hI s key x ch).1 key ≠ 0 then (s, ((hI s key x ch).2.1, false))
 else if Js2 (hI s key x ch).1 key = s.2.2.1 ++ [x.1] ∧ hK s key x > 0 ∧ Jl6 (hI s key x ch).1 key = Kl7 s.2.1 key x.1 then (((hI s key x ch).1, (Jl6 (hI s key x ch).1 key, (s.2.2.1 ++ [x.1], ()))), ((hI s key x ch).2.1, true))
 else (((hI s key x ch).1, (Jl6 (hI s key x ch).1 key, (s.2.2.1, ()))), ((hI s key x ch).2.1, decide (Js2 (hI s key x ch).1 key = s.2.2.1 ∧ hK s key x < (J64 s key x).length ∧ Jl6 (hI s key x ch).1 key = s.2.1)))
def Je4 (s : TlT) (key : Bys) (x : TcT) (ch : List Int) : Bool := !decide (J6q s.2.1 key x.1 = 0) || (decide (s.2.2.1.length ≤ 1000000 ∧ (J64 s key x).length ≤ 1000000) && (Jva s.2.2.1 && (Kl6 x.1 && (Kts s.1 (J64 s key x) && (K7e s.1 (J64 s key x) ch && Jeu (hI s key x ch).1)))))
def Jan (s : TlT) (key : Bys) (x : TcT) (ch : List Int) : TlT := (hC s key x ch).1
def Jcn (s : TlT) (key : Bys) (x : TcT) (ch : List Int) : List Int := (hC s key x ch).2.1
def Jb6 (s : TlT) (key : Bys) (x : TcT) (ch : List Int) : Bool := (hC s key x ch).2.2
end Go.AI
