/- Texts of the proof, joined: DiskS DigestS WireS CipherS LogS TransS TransK. Names of our own are shortened by program; the long ones stand in wip/. -/
import Derived.Test.YtcdajbmgoafnkaaGreatQrA5
namespace Go.AI
abbrev ZB := List UInt8
abbrev ZW := List UInt32
abbrev ZR := (Int × ((List UInt8) × Unit))
abbrev ZD := ((List (List UInt8)) × ((List ZR) × Unit))
abbrev ZL := (Int × (Int × (Int × Unit)))
abbrev ZH := ((List UInt32) × ((List UInt8) × (Int × Unit)))
end Go.AI
namespace Go.AI
open Go
abbrev Jbw := List UInt8
abbrev Kx8 := Int × (Jbw × Unit)
abbrev DK := List Jbw × (List Kx8 × Unit)
abbrev DOp := Int × (Int × (List Jbw × Unit))
def Qib (s : List Jbw) (l : List Kx8) : List Jbw := l.foldl (fun o p => o.set p.1.toNat p.2.1) s
def Jq9 (d : DK) : List Jbw := Qib d.1 d.2.1
def okP (n : Nat) (l : List Kx8) : Bool := l.all fun p => decide (0 ≤ p.1 ∧ p.1 < (n : Int))
def okD (d : DK) : Bool := decide (1 ≤ d.1.length ∧ d.1.length ≤ 8192) && okP d.1.length d.2.1
def Kq1 (d : DK) : Int := if okD d then 0 else 2
def Kq2 (d : DK) (at_ n : Int) : Bool := decide (0 ≤ at_ ∧ 0 ≤ n ∧ at_ + n ≤ d.1.length)
def Jng (d : DK) : Bool := decide (d.1.length ≤ 1000000 ∧ d.2.1.length ≤ 100000000)
def Jrq (s : List Jbw) : Bool := decide (s.length ≤ 2000000000)
def J08 (s : List Jbw) : List Jbw := s
def Klh (d : DK) (_ _ : Int) : Bool := Jng d
def Kav (d : DK) (at_ n : Int) : Bool := Kq2 d at_ n
def J8q (d : DK) : Bool := Jng d
def Jwe (d : DK) : Int := Kq1 d
def Jmo (d : DK) : Bool := Jng d && okP d.1.length d.2.1
def Jmp (d : DK) : List Jbw := Jq9 d
def K6v (d : DK) (at_ n : Int) : List Jbw := if okD d && Kq2 d at_ n then ((Jq9 d).drop at_.toNat).take n.toNat else []
def Kq3 (d : DK) (at_ n : Int) : Int := if okD d && Kq2 d at_ n then 0 else 2
def Kli (d : DK) (_ _ : Int) : Bool := Jng d
def Jep (d : DK) (at_ n : Int) : List Jbw := K6v d at_ n
def Jwf (d : DK) (at_ n : Int) : Int := Kq3 d at_ n
def Jwg (d : DK) : Bool := Jng d
def Joy (d : DK) : Int := Kq1 d
def J36 (d : DK) : Bool := Jng d && okP d.1.length d.2.1
def J37 (d : DK) : DK := (Jq9 d, ([], ()))
def Klj (d : DK) (_ _ : Int) : Bool := Jng d
def Kaw (d : DK) (at_ n : Int) : Bool := Kq2 d at_ n
def Klk (d : DK) (_ _ : Int) : Bool := Jng d
def Jf0 (d : DK) (at_ n : Int) : List Jbw := K6v d at_ n
def Kll (d : DK) (at_ n : Int) : Int := Kq3 d at_ n
def Jk9 (a b : List Jbw) : Bool := decide (a.length ≤ 1000000000000 ∧ b.length ≤ 1000000000000)
def Jla (a b : List Jbw) : Bool := decide (a = b)
def Kic (d : DK) : Bool := decide (d.1.length ≤ 500 ∧ d.2.1.length ≤ 200)
end Go.AI
namespace Go.AI
open Go
def ror (x : UInt32) (n : Int) : UInt32 := orW (Jpy x n) (Jze x (Jby 32 n))
def bs0 (a : UInt32) : UInt32 := Jgq (Jgq (ror a 2) (ror a 13)) (ror a 22)
def bs1 (e : UInt32) : UInt32 := Jgq (Jgq (ror e 6) (ror e 11)) (ror e 25)
def ss0 (x : UInt32) : UInt32 := Jgq (Jgq (ror x 7) (ror x 18)) (Jpy x 3)
def ss1 (x : UInt32) : UInt32 := Jgq (Jgq (ror x 17) (ror x 19)) (Jpy x 10)
def chW (e f g : UInt32) : UInt32 := Jgq (J0h e f) (J0h (Kx3 e) g)
def maW (a b c : UInt32) : UInt32 := Jgq (Jgq (J0h a b) (J0h a c)) (J0h b c)
def K3x (b : List UInt8) (t : Nat) : UInt32 :=
 orW (Jze (orW (Jze (orW (Jze (orW (Jze 0 8) (Jow (b.getD (4 * t) 0))) 8) (Jow (b.getD (4 * t + 1) 0))) 8) (Jow (b.getD (4 * t + 2) 0))) 8) (Jow (b.getD (4 * t + 3) 0))
def K6w (w : List UInt32) : List UInt32 := w.tail ++ [Jbp (Jbp (Jbp (w.getD 0 0) (ss0 (w.getD 1 0))) (w.getD 9 0)) (ss1 (w.getD 14 0))]
def win (b : List UInt8) : Nat → List UInt32
 | 0 => (List.range 16).map (K3x b)
 | t + 1 => K6w (win b t)
def wd (b : List UInt8) (t : Nat) : UInt32 := (win b t).getD 0 0
def n8 (s : List UInt32) : List UInt32 := [s.getD 0 0, s.getD 1 0, s.getD 2 0, s.getD 3 0, s.getD 4 0, s.getD 5 0, s.getD 6 0, s.getD 7 0]
def rnd (k w : UInt32) (x : List UInt32) : List UInt32 :=
 let t1 := Jbp (Jbp (Jbp (Jbp (x.getD 7 0) (bs1 (x.getD 4 0))) (chW (x.getD 4 0) (x.getD 5 0) (x.getD 6 0))) k) w
 let t2 := Jbp (bs0 (x.getD 0 0)) (maW (x.getD 0 0) (x.getD 1 0) (x.getD 2 0))
 [Jbp t1 t2, x.getD 0 0, x.getD 1 0, x.getD 2 0, Jbp (x.getD 3 0) t1, x.getD 4 0, x.getD 5 0, x.getD 6 0]
def kN : List Nat := [1116352408, 1899447441, 3049323471, 3921009573, 961987163, 1508970993, 2453635748, 2870763221, 3624381080, 310598401, 607225278, 1426881987, 1925078388, 2162078206, 2614888103, 3248222580, 3835390401, 4022224774, 264347078, 604807628, 770255983, 1249150122, 1555081692, 1996064986, 2554220882, 2821834349, 2952996808, 3210313671, 3336571891, 3584528711, 113926993, 338241895, 666307205, 773529912, 1294757372, 1396182291, 1695183700, 1986661051, 2177026350, 2456956037, 2730485921, 2820302411, 3259730800, 3345764771, 3516065817, 3600352804, 4094571909, 275423344, 430227734, 506948616, 659060556, 883997877, 958139571, 1322822218, 1537002063, 1747873779, 1955562222, 2024104815, 2227730452, 2361852424, 2428436474, 2756734187, 3204031479, 3329325298]
def kW : List UInt32 := [1116352408, 1899447441, 3049323471, 3921009573, 961987163, 1508970993, 2453635748, 2870763221, 3624381080, 310598401, 607225278, 1426881987, 1925078388, 2162078206, 2614888103, 3248222580, 3835390401, 4022224774, 264347078, 604807628, 770255983, 1249150122, 1555081692, 1996064986, 2554220882, 2821834349, 2952996808, 3210313671, 3336571891, 3584528711, 113926993, 338241895, 666307205, 773529912, 1294757372, 1396182291, 1695183700, 1986661051, 2177026350, 2456956037, 2730485921, 2820302411, 3259730800, 3345764771, 3516065817, 3600352804, 4094571909, 275423344, 430227734, 506948616, 659060556, 883997877, 958139571, 1322822218, 1537002063, 1747873779, 1955562222, 2024104815, 2227730452, 2361852424, 2428436474, 2756734187, 3204031479, 3329325298]
def rds (b : List UInt8) (s : List UInt32) : Nat → List UInt32
 | 0 => n8 s
 | t + 1 => rnd (kW.getD t 0) (wd b t) (rds b s t)
def add8 (x s : List UInt32) : List UInt32 := [Jbp (x.getD 0 0) (s.getD 0 0), Jbp (x.getD 1 0) (s.getD 1 0), Jbp (x.getD 2 0) (s.getD 2 0), Jbp (x.getD 3 0) (s.getD 3 0), Jbp (x.getD 4 0) (s.getD 4 0), Jbp (x.getD 5 0) (s.getD 5 0), Jbp (x.getD 6 0) (s.getD 6 0), Jbp (x.getD 7 0) (s.getD 7 0)]
def Qlq (s : List UInt32) (b : List UInt8) : List UInt32 := add8 (rds b s 64) s
def K9m (x n : Nat) : Nat := (x >>> n) ||| ((x <<< (32 - n)) % 4294967296)
def bs0N (a : Nat) : Nat := K9m a 2 ^^^ K9m a 13 ^^^ K9m a 22
def bs1N (e : Nat) : Nat := K9m e 6 ^^^ K9m e 11 ^^^ K9m e 25
def ss0N (x : Nat) : Nat := K9m x 7 ^^^ K9m x 18 ^^^ (x >>> 3)
def ss1N (x : Nat) : Nat := K9m x 17 ^^^ K9m x 19 ^^^ (x >>> 10)
def chN (e f g : Nat) : Nat := (e &&& f) ^^^ ((4294967295 - e) &&& g)
def maN (a b c : Nat) : Nat := (a &&& b) ^^^ (a &&& c) ^^^ (b &&& c)
def wdN (b : List Nat) (t : Nat) : Nat := b.getD (4 * t) 0 * 16777216 + b.getD (4 * t + 1) 0 * 65536 + b.getD (4 * t + 2) 0 * 256 + b.getD (4 * t + 3) 0
def Qlr (w : List Nat) : List Nat := w.tail ++ [(w.getD 0 0 + ss0N (w.getD 1 0) + w.getD 9 0 + ss1N (w.getD 14 0)) % 4294967296]
def rdsN : List Nat → List Nat → Nat → Nat → Nat → Nat → Nat → Nat → Nat → Nat → List Nat
 | [], _, a, b, c, d, e, f, g, h => [a, b, c, d, e, f, g, h]
 | k :: ks, w, a, b, c, d, e, f, g, h =>
  let t1 := h + bs1N e + chN e f g + k + w.getD 0 0
  rdsN ks (Qlr w) ((t1 + (bs0N a + maN a b c)) % 4294967296) a b c ((d + t1) % 4294967296) e f g
def Qbs (s : List UInt32) (b : List UInt8) : List UInt32 :=
 let n := s.map UInt32.toNat
 let x := rdsN kN ((List.range 16).map (wdN (b.map UInt8.toNat))) (n.getD 0 0) (n.getD 1 0) (n.getD 2 0) (n.getD 3 0) (n.getD 4 0) (n.getD 5 0) (n.getD 6 0) (n.getD 7 0)
 [UInt32.ofNat (x.getD 0 0 + n.getD 0 0), UInt32.ofNat (x.getD 1 0 + n.getD 1 0), UInt32.ofNat (x.getD 2 0 + n.getD 2 0), UInt32.ofNat (x.getD 3 0 + n.getD 3 0), UInt32.ofNat (x.getD 4 0 + n.getD 4 0), UInt32.ofNat (x.getD 5 0 + n.getD 5 0), UInt32.ofNat (x.getD 6 0 + n.getD 6 0), UInt32.ofNat (x.getD 7 0 + n.getD 7 0)]
def K9n : Nat → List UInt32 → List UInt8 → List UInt32
 | 0, s, _ => s
 | n + 1, s, l => K9n n (Qbs s (l.take 64)) (l.drop 64)
abbrev HH := List UInt32 × List UInt8 × Int × Unit
def wrH (h : HH) (b : List UInt8) : HH := let l := h.2.1 ++ b; (K9n (l.length / 64) h.1 l, l.drop (64 * (l.length / 64)), h.2.2.1 + b.length, ())
def K3y : HH := ([1779033703, 3144134277, 1013904242, 2773480762, 1359893119, 2600822924, 528734635, 1541459225], [], 0, ())
def K6x (h : HH) : Int := if h.2.2.1 < 0 ∨ 9007199254740991 < h.2.2.1 ∨ (h.2.1.length : Int) ≠ h.2.2.1 % 64 then 3 else 0
def be8 (n : Nat) : List UInt8 := (List.range 8).map fun i => UInt8.ofNat (n / 2 ^ (56 - 8 * i) % 256)
def padH (h : HH) : List UInt8 := 128 :: (List.replicate ((119 - h.2.1.length) % 64) 0 ++ be8 (8 * h.2.2.1.toNat))
def Qoo (s : List UInt32) : List UInt8 := (List.range 32).map fun i => J7d (Jpy (s.getD (i / 4) 0) (24 - 8 * (i % 4 : Nat)))
def finH (h : HH) : List UInt8 := Qoo (wrH h (padH h)).1
def Kq4 (b : List UInt8) : List UInt8 := finH (wrH K3y b)
def okH (h : HH) : Bool := decide (h.1.length = 8 ∧ h.2.1.length ≤ 1000 ∧ 0 ≤ h.2.2.1 ∧ h.2.2.1 ≤ 1152921504606846976)
def K6y (k : List UInt8) (x : UInt8) : List UInt8 := let l := (if k.length > 64 then Kq4 k else k); (l ++ List.replicate (64 - l.length) 0).map fun b => Jtq b x
def Qls (k b : List UInt8) : List UInt8 := Kq4 (K6y k 92 ++ Kq4 (K6y k 54 ++ b))
def Qlt (a b : List UInt8) : List UInt8 := List.zipWith Jtq a b
def Jyb (_ : UInt32) (n : Int) : Bool := decide (0 ≤ n ∧ n ≤ 32)
def Kax (x : UInt32) (n : Int) : UInt32 := ror x n
def Qic (_ : UInt32) (n : Int) : Bool := decide (0 ≤ n)
def Qlu (x : UInt32) (n : Int) : UInt32 := Jpy x n
def Jgs (_ : UInt32) (a b c : Int) (l : Nat) : Bool := decide (0 ≤ a ∧ a ≤ 32 ∧ 0 ≤ b ∧ b ≤ 32 ∧ 0 ≤ c ∧ c ≤ 32) && (l == 168 || l == 177)
def Je0 (x : UInt32) (a b c : Int) (l : Nat) : UInt32 := Jgq (Jgq (ror x a) (ror x b)) (bif l == 168 then ror x c else Jpy x c)
def J8r : Bool := true
def Klm : List UInt32 := kW
def J09 (s : List UInt32) (b : List UInt8) : Bool := decide (s.length = 8 ∧ 64 ≤ b.length)
def Kln (s : List UInt32) (b : List UInt8) : List UInt32 := Qbs s (b.take 64)
def J6a : Bool := true
def Jhv : HH := K3y
def Jeq (h : HH) (b : List UInt8) : Bool := okH h && decide (b.length ≤ 1000000000)
def Jdb (h : HH) (b : List UInt8) : HH := wrH h b
def Jh0 (h : HH) : Bool := okH h && decide (h.2.1.length < 64)
def Jlb (h : HH) : List UInt8 := finH h
def Kq5 (b : List UInt8) : Bool := decide (b.length ≤ 1000000000)
def Jyc (b : List UInt8) : List UInt8 := Kq4 b
def Jwh (k : List UInt8) (_ : UInt8) : Bool := decide (k.length ≤ 1000000000)
def Je7 (k : List UInt8) (x : UInt8) : List UInt8 := K6y k x
def Jua (k b : List UInt8) : Bool := decide (k.length ≤ 1000000000 ∧ b.length ≤ 100000000)
def J6b (k b : List UInt8) : List UInt8 := Qls k b
def J1a : Bool := true
def J1b : List UInt32 := kW
def Jea (_ : UInt32) (n : Int) : Bool := decide (0 ≤ n ∧ n ≤ 32)
def Jhw (x : UInt32) (n : Int) : UInt32 := ror x n
def J1c (b : List UInt8) : Bool := decide (64 ≤ b.length)
def J8s (b : List UInt8) : List UInt32 := (List.range 64).map (wd b)
def Jub (s : List UInt32) (b : List UInt8) : Bool := decide (s.length = 8 ∧ 64 ≤ b.length)
def Jp4 (s : List UInt32) (b : List UInt8) : List UInt32 := Qbs s (b.take 64)
def K3z : Bool := true
def J6c : HH := K3y
def J1d (h : HH) : Int := K6x h
def Jjl (h : HH) (b : List UInt8) : Bool := okH h && decide (b.length ≤ 1000000000)
def Jp5 (h : HH) (b : List UInt8) : HH := wrH h b
def Juc (h : HH) : Bool := decide (h.1.length = 8)
def Jwi (h : HH) : List UInt8 := if K6x h = 0 then finH h else List.replicate 32 0
def J38 (h : HH) : Int := K6x h
def Jp6 (b : List UInt8) : Bool := decide (b.length ≤ 1000000000)
def Jh1 (b : List UInt8) : List UInt8 := Kq4 b
def J1e (k b : List UInt8) : Bool := decide (k.length ≤ 1000000000 ∧ b.length ≤ 100000000)
def Kid (k b : List UInt8) : List UInt8 := Qls k b
end Go.AI
namespace Go.AI
open Go
def K30 : Int := 9007199254740991
def Jfn (n : Int) : Int := bif decide (n < 0) then 0 else bif decide (n > 9007199254740991) then 0 else n
def fur (m : Int) : Int :=
 if m < 128 then 0 else if m < 16384 then 1 else if m < 2097152 then 2 else if m < 268435456 then 3 else if m < 34359738368 then 4
 else if m < 4398046511104 then 5 else if m < 562949953421312 then 6 else 7
def Qka (m : Nat) : Nat → List UInt8
 | 0 => []
 | k + 1 => UInt8.ofNat (m / 2 ^ (8 * k) % 256) :: Qka m k
def Kx9 (m : Int) : List UInt8 := UInt8.ofNat (256 - 2 ^ (8 - (fur m).toNat) + m.toNat / 2 ^ (8 * (fur m).toNat)) :: Qka m.toNat (fur m).toNat
def Kie (n : Nat) : Nat := if n = 0 then 0 else n.log2 + 1
def J7e (b : UInt8) : Nat := if b < 128 then 0 else if b < 192 then 1 else if b < 224 then 2 else if b < 240 then 3 else if b < 248 then 4 else if b < 252 then 5 else if b < 254 then 6 else if b < 255 then 7 else 8
def Jeg (a : Nat) (l : List UInt8) : Nat := l.foldl (fun a c => 256 * a + c.toNat) a
def Ja9 : List UInt8 → Int × List UInt8 × Int
 | [] => (0, [], 9)
 | b :: r => if J7e b = 8 then (0, [], 3) else if r.length < J7e b then (0, [], 9)
  else if K30 < (Jeg (b.toNat - (256 - 2 ^ (8 - J7e b))) (r.take (J7e b)) : Int) ∨ fur (Jeg (b.toNat - (256 - 2 ^ (8 - J7e b))) (r.take (J7e b))) ≠ J7e b then (0, [], 3)
  else ((Jeg (b.toNat - (256 - 2 ^ (8 - J7e b))) (r.take (J7e b)) : Int), r.drop (J7e b), 0)
def Jeb (src : List UInt8) : Int × List UInt8 × Int :=
 let x := Ja9 src
 if x.2.2 = 0 ∧ x.1 > 65536 then (0, [], 5) else x
def Jbe (src : List UInt8) : List UInt8 × List UInt8 × Int :=
 let x := Jeb src
 if x.2.2 ≠ 0 then ([], [], x.2.2) else if (x.2.1.length : Int) < x.1 then ([], [], 9) else (x.2.1.take x.1.toNat, x.2.1.drop x.1.toNat, 0)
def Jc1 (n : Int) : Bool := decide (0 ≤ n ∧ n ≤ 62)
def Jc2 (n : Int) : Int := ((2 ^ n.toNat : Nat) : Int)
def Jpp (n : Int) : Int := Jfn n
def Jlc (n : Int) : Int := fur (Jfn n) + 1
def Jer (b : List UInt8) : Bool := decide (b.length ≤ 2000000000)
def Ji3 (b : List UInt8) : List UInt8 := b
def Jec (b : List UInt8) : Bool := decide (b.length ≤ 2000000000)
def Ja7 (b : List UInt8) : Int := (Ja9 b).1
def Jay (b : List UInt8) : List UInt8 := (Ja9 b).2.1
def Jbz (b : List UInt8) : Int := (Ja9 b).2.2
def Jku (b : List UInt8) : Bool := decide (b.length ≤ 2000000000)
def Jbj (b : List UInt8) : Int := (Jeb b).1
def Jbt (b : List UInt8) : List UInt8 := (Jeb b).2.1
def Jfg (b : List UInt8) : Int := (Jeb b).2.2
def Jes (b : List UInt8) : Bool := decide (b.length ≤ 2000000000)
def Jcx (b : List UInt8) : List UInt8 := (Jbe b).1
def Jcy (b : List UInt8) : List UInt8 := (Jbe b).2.1
def Jcz (b : List UInt8) : Int := (Jbe b).2.2
def Joz (x : Int) : Bool := decide (0 ≤ x ∧ x < 18446744073709551616)
def Jud (x : Int) : Int := Kie x.toNat
def Jrr (x : UInt8) : Int := Kie x.toNat
def Jwj (x : Int) : Bool := decide (0 ≤ x ∧ x < 18446744073709551616)
def Jwk (x : Int) : Int := Kie x.toNat
def Ja4 (x : UInt8) : Int := 8 - Kie x.toNat
def Jcb (n : Int) : Int := Jfn n
def Jd5 (n : Int) : Bool := decide (0 ≤ n ∧ n ≤ 9007199254740991)
def Jbo (n : Int) : Int := fur n
def Jbq (s : List UInt8) : Bool := decide (s.length ≤ 2000000000)
def Jcj (s : List UInt8) : List UInt8 := s
def Jmq (dst : List UInt8) (n : Int) : Bool := decide (dst.length ≤ 2000000000 ∧ -9223372036854775808 ≤ n ∧ n < 9223372036854775808)
def Jp7 (dst : List UInt8) (n : Int) : List UInt8 := dst ++ Kx9 (Jfn n)
def Jhm (dst : List UInt8) (n : Int) : Bool := decide (dst.length ≤ 2000000000 ∧ -9223372036854775808 ≤ n ∧ n < 9223372036854775808)
def Jl4 (dst : List UInt8) (n : Int) : List UInt8 := dst ++ Kx9 (Jfn n)
def Jfh (b : List UInt8) : Bool := decide (b.length ≤ 2000000000)
def Jas (b : List UInt8) : Int := (Ja9 b).1
def Jaq (b : List UInt8) : List UInt8 := (Ja9 b).2.1
def Jbk (b : List UInt8) : Int := (Ja9 b).2.2
def Jfi (dst b : List UInt8) : Bool := decide (dst.length + b.length ≤ 1000000000)
def Jjm (dst b : List UInt8) : List UInt8 := dst ++ Kx9 (Jfn b.length) ++ b
def Jgt (b : List UInt8) : Bool := decide (b.length ≤ 2000000000)
def Jet (b : List UInt8) : List UInt8 := (Jbe b).1
def Jeu (b : List UInt8) : List UInt8 := (Jbe b).2.1
def Jc3 (b : List UInt8) : Int := (Jbe b).2.2
end Go.AI
namespace Go.AI
open Go
def Qid (x k : Nat) : Nat := (x * 2 ^ k) % 4294967296 + x / 2 ^ (32 - k)
def K9o (x : UInt32) (k : Nat) : UInt32 := UInt32.ofNat (Qid x.toNat k)
def stp (w : List UInt32) (t f o k : Nat) : List UInt32 :=
 (w.set t (Jbp (w.getD t 0) (w.getD f 0))).set o (K9o (Jgq ((w.set t (Jbp (w.getD t 0) (w.getD f 0))).getD o 0) ((w.set t (Jbp (w.getD t 0) (w.getD f 0))).getD t 0)) k)
def qrt (w : List UInt32) (a b c d : Nat) : List UInt32 := stp (stp (stp (stp w a b d 16) c d b 12) a b d 8) c d b 7
def Qbt (w : List UInt32) : Nat → List UInt32
 | 0 => w
 | i + 1 => qrt (Qbt w i) i (4 + i) (8 + i) (12 + i)
def Qie (w : List UInt32) : Nat → List UInt32
 | 0 => w
 | i + 1 => qrt (Qie w i) i (4 + (i + 1) % 4) (8 + (i + 2) % 4) (12 + (i + 3) % 4)
def Qbu (w : List UInt32) : Nat → List UInt32
 | 0 => w
 | n + 1 => Qie (Qbt (Qbu w n) 4) 4
def kwd (key : List UInt8) (i : Nat) : UInt32 := UInt32.ofNat ((key.getD (4 * i) 0).toNat + 256 * (key.getD (4 * i + 1) 0).toNat + 65536 * (key.getD (4 * i + 2) 0).toNat + 16777216 * (key.getD (4 * i + 3) 0).toNat)
def Qop (key : List UInt8) (nonce counter : Int) : List UInt32 :=
 [1634760805, 857760878, 2036477234, 1797285236, kwd key 0, kwd key 1, kwd key 2, kwd key 3, kwd key 4, kwd key 5, kwd key 6, kwd key 7, Kia counter, 0, Kia nonce, Kia (nonce / 4294967296)]
def le4 (x : UInt32) : List UInt8 := [J7d x, J7d (Jpy x 8), J7d (Jpy x 16), J7d (Jpy x 24)]
def Klo (m w : List UInt32) (n : Nat) : List UInt8 := (List.range n).flatMap fun i => le4 (Jbp (m.getD i 0) (w.getD i 0))
def Kya (key : List UInt8) (nonce counter : Int) : List UInt8 := Klo (Qbu (Qop key nonce counter) 10) (Qop key nonce counter) 16
def inR (nonce : Int) : Bool := decide (0 ≤ nonce ∧ nonce ≤ 9007199254740991)
def Qkb (nonce counter : Int) : Int := if inR nonce ∧ 0 ≤ counter ∧ counter ≤ 4294967295 then 0 else 2
def Qnz (key : List UInt8) (nonce : Int) : Nat → Nat → List UInt8 → List UInt8
 | 0, _, _ => []
 | n + 1, c, b => Qlt (b.take 64) (Kya key nonce c) ++ Qnz key nonce n (c + 1) (b.drop 64)
def Ke3 (key : List UInt8) (nonce : Int) (b : List UInt8) : List UInt8 := Qnz key nonce ((b.length + 63) / 64) 1 b
def Qbv (nonce : Int) (b : List UInt8) : Int := if (b.length : Int) > 65536 then 5 else if inR nonce then 0 else 2
def Qoq (key : List UInt8) (nonce : Int) (b : List UInt8) : List UInt8 := if Qbv nonce b = 0 then Ke3 key nonce b else []
def K9p (k : List UInt8) : List UInt8 := Qls k [101, 110, 99, 114, 121, 112, 116]
def Jtr (k : List UInt8) : List UInt8 := Qls k [97, 117, 116, 104, 101, 110, 116, 105, 99, 97, 116, 101]
def le8 (n : Int) : List UInt8 := (List.range 8).map fun i => UInt8.ofNat (n.toNat / 2 ^ (8 * i) % 256)
def Qg2 (key : List UInt8) (nonce : Int) (b : List UInt8) : List UInt8 := (Qls key (le8 nonce ++ b)).take 16
def Kif (k : List UInt8) : Bool := decide (1 ≤ k.length ∧ k.length ≤ 64)
def K31 (k : List UInt8) (nonce : Int) (b : List UInt8) : Int := if Kif k then if (b.length : Int) > 65520 then 5 else if inR nonce then 0 else 2 else 1
def Qkc (k : List UInt8) (nonce : Int) (b : List UInt8) : List UInt8 := if K31 k nonce b = 0 then Ke3 (K9p k) nonce b ++ Qg2 (Jtr k) nonce (Ke3 (K9p k) nonce b) else []
def Klp (k : List UInt8) (nonce : Int) (b : List UInt8) : Int := if Kif k then if (b.length : Int) > 65536 then 5 else if inR nonce then if b.length < 16 then 9 else
 if Qg2 (Jtr k) nonce (b.take (b.length - 16)) = b.drop (b.length - 16) then 0 else 25 else 2 else 1
def Qg3 (k : List UInt8) (nonce : Int) (b : List UInt8) : List UInt8 := if Klp k nonce b = 0 then Ke3 (K9p k) nonce (b.take (b.length - 16)) else []
def J39 (_ : UInt32) (k : Int) : Bool := k == 7 || k == 8 || k == 12 || k == 16
def Kay (x : UInt32) (k : Int) : UInt32 := K9o x k.toNat
def J8t (_ : List UInt8) (nonce _ : Int) : Bool := inR nonce
def J8u (key : List UInt8) (nonce counter : Int) : List UInt32 := Qop key nonce counter
def K32 (_ : List UInt8) (nonce _ : Int) : Bool := inR nonce
def K33 (key : List UInt8) (nonce counter : Int) : List UInt8 := Kya key nonce counter
def Jrs (nonce : Int) : Bool := inR nonce
def Jnh (_ : List UInt8) (_ : Int) (_ : List UInt8) : Bool := true
def Jj7 (key : List UInt8) (nonce : Int) (b : List UInt8) : List UInt8 := Qoq key nonce b
def Jhn (_ : List UInt8) (nonce : Int) (b : List UInt8) : Int := Qbv nonce b
def Jrt (k : List UInt8) : Bool := decide (k.length ≤ 1000000000)
def Jgj (k : List UInt8) : List UInt8 := K9p k
def Jh3 (k : List UInt8) : List UInt8 := Jtr k
def J6d (key : List UInt8) (nonce : Int) (b : List UInt8) : Bool := inR nonce && decide (key.length = 32 ∧ b.length ≤ 10000000)
def J6e (key : List UInt8) (nonce : Int) (b : List UInt8) : List UInt8 := Qg2 key nonce b
def Jni (k : List UInt8) : Bool := Kif k
def Klq (_ : List UInt8) (_ : Int) (_ : List UInt8) : Bool := true
def Jru (k : List UInt8) (nonce : Int) (b : List UInt8) : List UInt8 := Qkc k nonce b
def Jwl (k : List UInt8) (nonce : Int) (b : List UInt8) : Int := K31 k nonce b
def J4a (_ : List UInt8) (_ : Int) (_ : List UInt8) : Bool := true
def Jjn (k : List UInt8) (nonce : Int) (b : List UInt8) : List UInt8 := Qg3 k nonce b
def Jl5 (k : List UInt8) (nonce : Int) (b : List UInt8) : Int := Klp k nonce b
def Ji4 (a b : List UInt8) : Bool := decide (a.length ≤ 1000000000000 ∧ b.length ≤ 1000000000000)
def Ji5 (a b : List UInt8) : Bool := a == b
def Jib (_ : UInt32) (n : Int) : Bool := decide (0 ≤ n ∧ n ≤ 16)
def Jj8 (x : UInt32) (n : Int) : UInt32 := K9o x n.toNat
def Jwm (_ : List UInt8) (nonce _ : Int) : Bool := inR nonce
def J8v (key : List UInt8) (nonce counter : Int) : List UInt32 := Qop key nonce counter
def Jnj (n bytes : Int) : Bool := decide (0 ≤ n ∧ n ≤ 9007199254740991 ∧ 0 ≤ bytes ∧ bytes ≤ 8)
def Jjo (n bytes : Int) : List UInt8 := (List.range bytes.toNat).map fun i => UInt8.ofNat (n.toNat / 2 ^ (8 * i) % 256)
def Jjp (n : Int) : Bool := inR n
def J8w (_ : List UInt8) (_ _ : Int) : Bool := true
def Jjq (key : List UInt8) (nonce counter : Int) : List UInt8 := if Qkb nonce counter = 0 then Kya key nonce counter else []
def Kaz (_ : List UInt8) (nonce counter : Int) : Int := Qkb nonce counter
def J1f (_ : List UInt8) (_ : Int) (_ : List UInt8) : Bool := true
def Jp8 (key : List UInt8) (nonce : Int) (b : List UInt8) : List UInt8 := Qoq key nonce b
def Jp9 (_ : List UInt8) (nonce : Int) (b : List UInt8) : Int := Qbv nonce b
def J4b (k : List UInt8) : Bool := decide (k.length ≤ 1000000000)
def Jrv (k : List UInt8) : List UInt8 := K9p k
def Jwn (k : List UInt8) : List UInt8 := Jtr k
def J6f (key : List UInt8) (nonce : Int) (b : List UInt8) : Bool := inR nonce && decide (key.length = 32 ∧ b.length ≤ 10000000)
def Kq6 (key : List UInt8) (nonce : Int) (b : List UInt8) : List UInt8 := Qg2 key nonce b
def J4c (_ : List UInt8) (_ : Int) (_ : List UInt8) : Bool := true
def Jho (k : List UInt8) (nonce : Int) (b : List UInt8) : List UInt8 := Qg3 k nonce b
def Jjr (k : List UInt8) (nonce : Int) (b : List UInt8) : Int := Klp k nonce b
end Go.AI
namespace Go.AI
open Go
abbrev Jic := Int × (Int × (Int × Unit))
abbrev Bys := List UInt8
def K9q : Jic := (0, (0, (0, ())))
def sh1 (r : Nat) : Nat := if r % 2 = 1 then (r / 2) ^^^ 3988292384 else r / 2
def sh8 (r : Nat) : Nat := sh1 (sh1 (sh1 (sh1 (sh1 (sh1 (sh1 (sh1 r)))))))
def Qlv (r : Nat) (b : UInt8) : Nat := sh8 (r ^^^ b.toNat)
def Qor (r : Nat) (b : Bys) : Nat := b.foldl Qlv r
def K9r (b : Bys) : Nat := Qor 4294967295 b ^^^ 4294967295
def J1g (_ : UInt32) : Bool := true
def Jld (r : UInt32) : UInt32 := UInt32.ofNat (sh8 r.toNat)
def J8x : Bool := true
def Jl6 : List UInt32 := (List.range 256).map fun i => UInt32.ofNat (sh8 i)
def Kq7 (_ : UInt32) (b : Bys) : Bool := decide (b.length ≤ 1000000000)
def Kig (s : UInt32) (b : Bys) : UInt32 := UInt32.ofNat (Qor (s.toNat ^^^ 4294967295) b ^^^ 4294967295)
def Kih (b : Bys) : Bool := decide (b.length ≤ 1000000000)
def Ka0 (b : Bys) : UInt32 := UInt32.ofNat (K9r b)
def K34 (_ : UInt32) (_ : UInt8) : Bool := true
def Kii (r : UInt32) (b : UInt8) : UInt32 := UInt32.ofNat (Qlv r.toNat b)
def Kq8 (_ : UInt32) (b : Bys) : Bool := decide (b.length ≤ 1000000000)
def K35 (s : UInt32) (b : Bys) : UInt32 := Kig s b
def K36 (b : Bys) : Bool := decide (b.length ≤ 1000000000)
def Kq9 (b : Bys) : UInt32 := Ka0 b
def be : Nat → Nat → Bys
 | 0, _ => []
 | k + 1, n => UInt8.ofNat (n / 256 ^ k) :: be k n
def beV (l : Bys) : Nat := l.foldl (fun n b => 256 * n + b.toNat) 0
def fld (p : Jbw) (a n : Nat) : Nat := beV ((p.drop a).take n)
def Jco (n : Nat) : Nat := (n + 14) / 15
def Jjs (n : Int) : Bool := decide (0 ≤ n ∧ n ≤ 1000000000000)
def Jh4 (n : Int) : Int := ((Jco n.toNat : Nat) : Int)
def Jgu (n : Int) : Bool := Jjs n
def Jc8 (n : Int) : Int := Jh4 n
def Qkd (n : Int) : Int := if 0 ≤ n ∧ n ≤ 65536 then ((Jco n.toNat + 1 : Nat) : Int) else 0
def J8y (_ : Int) : Bool := true
def Jkv (n : Int) : Int := Qkd n
def Kij (l : Jic) : Int := if l.2.2.1 < 2 ∨ l.2.2.1 > 8192 ∨ l.1 < 1 ∨ l.1 > l.2.2.1 then 2 else if l.2.1 < 0 ∨ l.2.1 ≥ l.1 then 3 else 0
def Jl7 (l : Jic) : Int := Kij l
def Klr : Jbw := [3, 99, 111, 109, 112, 97, 99, 116, 111, 114, 32, 108, 111, 103, 32, 49]
def Kls : Bool := true
def Klt : Jbw := Klr
def J1h : Bool := true
def J1i : Jbw := Klr
def Jo0 (l : Bys) : Bool := decide (l.length ≤ 7)
def Jck (l : Bys) : Int := ((beV l : Nat) : Int)
def K6z (b : Bys) (c : Nat) : Jbw := 2 :: (be 4 c ++ (be 3 (Jco b.length) ++ (be 4 b.length ++ be 4 (K9r b))))
def J1j (b : Bys) (c : Int) : Bool := decide (b.length ≤ 1000000000 ∧ 0 ≤ c ∧ c ≤ 1000000000)
def J1k (b : Bys) (c : Int) : Jbw := K6z b c.toNat
def Kyb (p : Jbw) (a n v : Nat) : Jbw := p.take a ++ (be n v ++ p.drop (a + n))
def Jue (p : Jbw) (a n v : Int) : Bool := decide (p.length = 16 ∧ 0 ≤ a ∧ 0 ≤ n ∧ a + n ≤ 16 ∧ 0 ≤ v ∧ v ≤ 1000000000000)
def Jo1 (p : Jbw) (a n v : Int) : Jbw := Kyb p a.toNat n.toNat v.toNat
def Ka1 (p : Jbw) (a n : Int) : Bool := decide (p.length = 16 ∧ 0 ≤ a ∧ 0 ≤ n ∧ a + n ≤ 16 ∧ n ≤ 7)
def J1l (p : Jbw) (a n : Int) : Int := ((fld p a.toNat n.toNat : Nat) : Int)
def Juf (b : Bys) (c : Int) : Bool := J1j b c
def Jug (b : Bys) (c : Int) : Jbw := K6z b c.toNat
def J1m : Nat → Bys → List Jbw
 | 0, _ => []
 | k + 1, b => (1 :: (b.take 15 ++ List.replicate (15 - (b.take 15).length) 0)) :: J1m k (b.drop 15)
def Jqa (b : Bys) : List Jbw := J1m (Jco b.length) b
def Ka2 (b : Bys) : Bool := decide (b.length ≤ 1000000)
def Jzf (b : Bys) : List Jbw := Jqa b
def wrO (a : Int) (ps : List Jbw) : DOp := (0, (a, (ps, ())))
def syO : DOp := (1, (0, ([], ())))
def Jrw (_ : Int) (_ : List Jbw) : Bool := true
def Jrx (a : Int) (ps : List Jbw) : DOp := wrO a ps
def Jzg : Bool := true
def Jzh : DOp := syO
def Kw5 (l : Jic) (b : Bys) : Int := if Kij l = 0 then (if b.length > 65536 then 5 else if l.2.2.1 - l.1 < Jco b.length + 1 then 11 else 0) else Kij l
def appK (l : Jic) (b : Bys) : List DOp := (if b = [] then [] else [wrO l.1 (Jqa b), syO]) ++ [wrO (l.1 + Jco b.length) [K6z b (l.2.1 + 1).toNat], syO]
def Qn0 (l : Jic) (b : Bys) : List DOp := if Kw5 l b = 0 then appK l b else []
def Qlw (l : Jic) (b : Bys) : Jic := (l.1 + Jco b.length + 1, (l.2.1 + 1, (l.2.2.1, ())))
def Qos (l : Jic) (b : Bys) : Jic := if Kw5 l b = 0 then Qlw l b else K9q
def J1n (_ : Jic) (_ : Bys) : Bool := true
def Jqb (l : Jic) (b : Bys) : Jic := Qos l b
def Jqc (l : Jic) (b : Bys) : List DOp := Qn0 l b
def Jqd (l : Jic) (b : Bys) : Int := Kw5 l b
def Jdp (p : Jbw) : Bool := decide ((p.getD 0 0).toNat = 1)
def Jf1 (ps : List Jbw) : Bys := ps.flatMap fun p => (p.drop 1).take 15
def K60 (b : Bys) (_ : Nat) : Bool := decide (b.length ≤ 1000000000)
def Jnk (b : Bys) : Bool := b.any fun x => decide (x.toNat ≠ 0)
def K61 (b : Bys) (_ : Nat) : Bool := Jnk b
def Jzi (p : Jbw) (num : Int) (k : Nat) (pay : Bys) : Bool :=
 decide ((p.getD 0 0).toNat = 2 ∧ (fld p 1 4 : Int) = num ∧ fld p 5 3 = k ∧ fld p 8 4 ≤ 65536 ∧ Jco (fld p 8 4) = k) && (!Jnk (pay.drop (fld p 8 4)) && decide (fld p 12 4 = K9r (pay.take (fld p 8 4))))
def Jx1 (l : List Jbw) (num : Int) : Option (Bys × List Jbw) :=
 match l.dropWhile Jdp with
 | [] => none
 | p :: r => if Jzi p num (l.takeWhile Jdp).length (Jf1 (l.takeWhile Jdp)) then some ((Jf1 (l.takeWhile Jdp)).take (fld p 8 4), r) else none
def Jnl : Nat → List Jbw → Int → List Bys × List Jbw
 | 0, l, _ => ([], l)
 | n + 1, l, num => match Jx1 l num with
  | none => ([], l)
  | some (b, r) => (b :: (Jnl n r (num + 1)).1, (Jnl n r (num + 1)).2)
def Kfd (l : List Jbw) (first : Int) : List Bys × List Jbw := if 1 ≤ first ∧ first ≤ 8192 then Jnl l.length l first else ([], l)
def J1o (l : List Jbw) : Bool := l.all fun p => decide (p.length = 16)
def Juh (l : List Jbw) (_ : Int) : Bool := decide (l.length ≤ 1000000) && J1o l
def J1p (l : List Jbw) (first : Int) : List Bys := (Kfd l first).1
def Jgk (l : List Jbw) (first : Int) : Int := (l.length : Int) - ((Kfd l first).2.length : Int)
def Jf2 (l : List Jbw) (num : Int) : Bool := decide (l.length ≤ 1000000 ∧ 0 ≤ num ∧ num ≤ 1000000000) && J1o l
def Jgv (l : List Jbw) (num : Int) : Bys := match Jx1 l num with | some (b, _) => b | none => []
def Jgw (l : List Jbw) (num : Int) : Int := match Jx1 l num with | some (_, r) => (l.length : Int) - r.length | none => 0
def Jgx (l : List Jbw) (num : Int) : Bool := (Jx1 l num).isSome
def Ka3 (l : List Jbw) (first : Int) : Bool := Juh l first
def J1q (l : List Jbw) (first : Int) : List Bys := (Kfd l first).1
def J8z (l : List Jbw) (first : Int) : Int := Jgk l first
def opE (d : DK) : Int := if Kq1 d = 0 then (if d.1.length < 2 then 2 else if (Jq9 d).getD 0 z16 = Klr then 0 else 3) else Kq1 d
def opL (d : DK) : Jic := if opE d = 0 then (1 + Jgk (Jq9 d).tail 1, (((Kfd (Jq9 d).tail 1).1.length : Int), ((d.1.length : Int), ()))) else K9q
def opB (d : DK) : List Bys := if opE d = 0 then (Kfd (Jq9 d).tail 1).1 else []
def Qlx (d : DK) : Bool := J1o d.1 && d.2.1.all fun p => decide (p.2.1.length = 16)
def Jj9 (d : DK) : Bool := Jng d && Qlx d
def Jry (d : DK) : Jic := opL d
def Jo2 (d : DK) : List Bys := opB d
def Jo3 (d : DK) : Int := opE d
def Jzj (d : DK) : Bool := Jng d && Qlx d
def Jrz (d : DK) : Jic := opL d
def Jr0 (d : DK) : List Bys := opB d
def Jl8 (d : DK) : Int := opE d
end Go.AI
namespace Go.AI
open Go
abbrev Rec := Int × (List UInt8 × Unit)
def Jnm (r : Rec) : Int := if 1 ≤ r.1 ∧ r.1 ≤ 4 then (if r.2.1.length > 65536 then 5 else 0) else 1
def K9s : List Rec → Int
 | [] => 0
 | r :: l => if Jnm r = 0 then K9s l else Jnm r
def Qif (l : List Rec) : Int := if l.length > 1024 then 6 else K9s l
def Ka4 (r : Rec) : List UInt8 := Kx9 (Jfn r.1) ++ (Kx9 (Jfn r.2.1.length) ++ r.2.1)
def Kik (l : List Rec) : List UInt8 := Kx9 (Jfn l.length) ++ l.flatMap Ka4
def Kyc (l : List Rec) : Int := if Qif l = 0 then (if (Kik l).length > 65536 then 5 else 0) else Qif l
def Qot (l : List Rec) : List UInt8 := if Kyc l = 0 then Kik l else []
def K62 : Nat → List UInt8 → List Rec → List Rec × Int
 | 0, b, out => if b.length = 0 then (out, 0) else ([], 3)
 | n + 1, b, out => if (Ja9 b).2.2 ≠ 0 then ([], (Ja9 b).2.2) else if 1 ≤ (Ja9 b).1 ∧ (Ja9 b).1 ≤ 4 then
   (if (Jbe (Ja9 b).2.1).2.2 ≠ 0 then ([], (Jbe (Ja9 b).2.1).2.2) else K62 n (Jbe (Ja9 b).2.1).2.1 (out ++ [((Ja9 b).1, ((Jbe (Ja9 b).2.1).1, ()))]))
  else ([], 1)
def J80 (b : List UInt8) : List Rec × Int :=
 if b.length > 65536 then ([], 5) else if (Ja9 b).2.2 ≠ 0 then ([], (Ja9 b).2.2) else if (Ja9 b).1 > 1024 then ([], 6) else K62 (Ja9 b).1.toNat (Ja9 b).2.1 []
def Jwo (_ : List Rec) : Bool := true
def Jo4 (l : List Rec) : Int := Qif l
def Jpq (n : Int) : Int := if 1 ≤ n ∧ n ≤ 4 then 0 else 1
def Jr1 (b : List UInt8) (_ : Nat) (x : Int) : Bool := Jhm b x
def Jlt (b : List UInt8) (_ : Nat) (x : Int) : List UInt8 := Jl4 b x
def Jzk (b : List UInt8) (_ : Nat) (x : List UInt8) : Bool := Jfi b x
def Jui (b : List UInt8) (_ : Nat) (x : List UInt8) : List UInt8 := Jjm b x
def Juj (_ : List Rec) : Bool := true
def Jc7 (l : List Rec) : List UInt8 := Qot l
def Jka (l : List Rec) : Int := Kyc l
def Jle (_ : List UInt8) : Bool := true
def Jfj (b : List UInt8) : List Rec := (J80 b).1
def Jfk (b : List UInt8) : Int := (J80 b).2
def Jlf (_ : List UInt8) : Bool := true
def Jfl (b : List UInt8) : List Rec := (J80 b).1
def Jdf (b : List UInt8) : Int := (J80 b).2
def Qg4 (l : List Rec) : Bool := decide (l.length ≤ 1000000000000)
def Klu (a b : List Rec) : Bool := Qg4 a && Qg4 b
def Ka5 (a b : List Rec) : Bool := decide (a = b)
def Qig (l : List (List Rec)) : Bool := decide (l.length ≤ 1000000000000) && l.all Qg4
def Jwp (a b : List (List Rec)) : Bool := Qig a && Qig b
def Jwq (a b : List (List Rec)) : Bool := decide (a = b)
end Go.AI
namespace Go.AI
open Go
def K9t (key : Bys) (c : Int) (l : List Rec) : Int := if Kyc l = 0 then (if key = [] then 0 else K31 key c (Kik l)) else Kyc l
def Qke (key : Bys) (c : Int) (l : List Rec) : Bys := if key = [] then Kik l else Qkc key c (Kik l)
def Qg5 (l : Jic) (key : Bys) (recs : List Rec) : Int := if Kij l = 0 then (if K9t key (l.2.1 + 1) recs = 0 then Kw5 l (Qke key (l.2.1 + 1) recs) else K9t key (l.2.1 + 1) recs) else Kij l
def Qkf (l : Jic) (key : Bys) (recs : List Rec) : Jic := if Kij l = 0 ∧ K9t key (l.2.1 + 1) recs = 0 then Qos l (Qke key (l.2.1 + 1) recs) else K9q
def Kw6 (l : Jic) (key : Bys) (recs : List Rec) : List DOp := if Kij l = 0 ∧ K9t key (l.2.1 + 1) recs = 0 then Qn0 l (Qke key (l.2.1 + 1) recs) else []
def J1r (_ : Jic) (_ : Bys) (_ : List Rec) : Bool := true
def Jqe (l : Jic) (key : Bys) (recs : List Rec) : Jic := Qkf l key recs
def Jd7 (l : Jic) (key : Bys) (recs : List Rec) : List DOp := Kw6 l key recs
def Jqf (l : Jic) (key : Bys) (recs : List Rec) : Int := Qg5 l key recs
def Jjt : Bool := true
def unB (key : Bys) (i : Int) (b : Bys) : List Rec × Int := if key = [] then J80 b else if Klp key i b = 0 then J80 (Qg3 key i b) else ([], Klp key i b)
def Klv (key : Bys) : Int → List Bys → List (List Rec) → List (List Rec) × Int
 | _, [], out => (out, 0)
 | i, b :: bs, out => if (unB key i b).2 = 0 then Klv key (i + 1) bs (out ++ [(unB key i b).1]) else ([], (unB key i b).2)
def K37 (d : DK) (key : Bys) : Int := if opE d = 0 then (if key.length > 64 then 1 else (Klv key 1 (opB d) []).2) else opE d
def K63 (d : DK) (key : Bys) : List (List Rec) := if K37 d key = 0 then (Klv key 1 (opB d) []).1 else []
def Qly (d : DK) (key : Bys) : Jic := if K37 d key = 0 then opL d else K9q
def J1s (d : DK) (_ : Bys) : Bool := Jj9 d
def Jwr (d : DK) (key : Bys) : Jic := Qly d key
def Jqg (d : DK) (key : Bys) : List (List Rec) := K63 d key
def Jws (d : DK) (key : Bys) : Int := K37 d key
def J1t (d : DK) (_ : Bys) : Bool := Jj9 d
def Jwt (d : DK) (key : Bys) : Jic := Qly d key
def Jqh (d : DK) (key : Bys) : List (List Rec) := K63 d key
def Jwu (d : DK) (key : Bys) : Int := K37 d key
end Go.AI
