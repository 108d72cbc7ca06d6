/- What the functions of log, of checksum and of their references answer. -/
import Derived.Test.YtaobeghgcfbcfaaDiskS
namespace Go.AI
open Go

abbrev LogT := Int × (Int × (Int × Unit))
abbrev Bys := List UInt8
def log0 : LogT := (0, (0, (0, ())))
/- Checksums, on numbers. -/
def sh1 (r : Nat) : Nat := if r % 2 = 1 then (r / 2) ^^^ 3988292384 else r / 2
def sh8 (r : Nat) : Nat := sh1 (sh1 (sh1 (sh1 (sh1 (sh1 (sh1 (sh1 r)))))))
def regN (r : Nat) (b : UInt8) : Nat := sh8 (r ^^^ b.toNat)
def crcG (r : Nat) (b : Bys) : Nat := b.foldl regN r
def crcN (b : Bys) : Nat := crcG 4294967295 b ^^^ 4294967295
def shifted_P (_ : UInt32) : Bool := true
def shifted_r (r : UInt32) : UInt32 := UInt32.ofNat (sh8 r.toNat)
def ctable_P : Bool := true
def ctable_r : List UInt32 := (List.range 256).map fun i => UInt32.ofNat (sh8 i)
def cUpd_P (_ : UInt32) (b : Bys) : Bool := decide (b.length ≤ 1000000000)
def cUpd_r (s : UInt32) (b : Bys) : UInt32 := UInt32.ofNat (crcG (s.toNat ^^^ 4294967295) b ^^^ 4294967295)
def cSum_P (b : Bys) : Bool := decide (b.length ≤ 1000000000)
def cSum_r (b : Bys) : UInt32 := UInt32.ofNat (crcN b)
def kReg_P (_ : UInt32) (_ : UInt8) : Bool := true
def kReg_r (r : UInt32) (b : UInt8) : UInt32 := UInt32.ofNat (regN r.toNat b)
def kUpd_P (_ : UInt32) (b : Bys) : Bool := decide (b.length ≤ 1000000000)
def kUpd_r (s : UInt32) (b : Bys) : UInt32 := cUpd_r s b
def kSum_P (b : Bys) : Bool := decide (b.length ≤ 1000000000)
def kSum_r (b : Bys) : UInt32 := cSum_r b

/- Numbers in bytes. -/
def be : Nat → Nat → Bys
  | 0, _ => []
  | k + 1, n => UInt8.ofNat (n / 256 ^ k) :: be k n
def beV (l : Bys) : Nat := l.foldl (fun n b => 256 * n + b.toNat) 0
def fld (p : Page) (a n : Nat) : Nat := beV ((p.drop a).take n)

/- Pages. -/
def needN (n : Nat) : Nat := (n + 14) / 15
def needed_P (n : Int) : Bool := decide (0 ≤ n ∧ n ≤ 1000000000000)
def needed_r (n : Int) : Int := ((needN n.toNat : Nat) : Int)
def qDataPages_P (n : Int) : Bool := needed_P n
def qDataPages_r (n : Int) : Int := needed_r n
def pagesI (n : Int) : Int := if 0 ≤ n ∧ n ≤ 65536 then ((needN n.toNat + 1 : Nat) : Int) else 0
def lPages_P (_ : Int) : Bool := true
def lPages_r (n : Int) : Int := pagesI n
def qPages_P (_ : Int) : Bool := true
def qPages_r (n : Int) : Int := pagesI n
def chkL (l : LogT) : Int := if l.2.2.1 < 2 ∨ l.2.2.1 > 8192 ∨ l.1 < 1 ∨ l.1 > l.2.2.1 then 2 else if l.2.1 < 0 ∨ l.2.1 ≥ l.1 then 3 else 0
def lCheck_r (l : LogT) : Int := chkL l
def qLCheck_r (l : LogT) : Int := chkL l
def headP : Page := [3, 99, 111, 109, 112, 97, 99, 116, 111, 114, 32, 108, 111, 103, 32, 49]
def lHead_P : Bool := true
def lHead_r : Page := headP
def qHeader_P : Bool := true
def qHeader_r : Page := headP
def lValue_P (l : Bys) : Bool := decide (l.length ≤ 7)
def lValue_r (l : Bys) : Int := ((beV l : Nat) : Int)
def comP (b : Bys) (c : Nat) : Page := 2 :: (be 4 c ++ (be 3 (needN b.length) ++ (be 4 b.length ++ be 4 (crcN b))))
def lEnd_P (b : Bys) (c : Int) : Bool := decide (b.length ≤ 1000000000 ∧ 0 ≤ c ∧ c ≤ 1000000000)
def lEnd_r (b : Bys) (c : Int) : Page := comP b c.toNat
def putP (p : Page) (a n v : Nat) : Page := p.take a ++ (be n v ++ p.drop (a + n))
def qPut_P (p : Page) (a n v : Int) : Bool := decide (p.length = 16 ∧ 0 ≤ a ∧ 0 ≤ n ∧ a + n ≤ 16 ∧ 0 ≤ v ∧ v ≤ 1000000000000)
def qPut_r (p : Page) (a n v : Int) : Page := putP p a.toNat n.toNat v.toNat
def qGet_P (p : Page) (a n : Int) : Bool := decide (p.length = 16 ∧ 0 ≤ a ∧ 0 ≤ n ∧ a + n ≤ 16 ∧ n ≤ 7)
def qGet_r (p : Page) (a n : Int) : Int := ((fld p a.toNat n.toNat : Nat) : Int)
def qCommit_P (b : Bys) (c : Int) : Bool := lEnd_P b c
def qCommit_r (b : Bys) (c : Int) : Page := comP b c.toNat
def datN : Nat → Bys → List Page
  | 0, _ => []
  | k + 1, b => (1 :: (b.take 15 ++ List.replicate (15 - (b.take 15).length) 0)) :: datN k (b.drop 15)
def dataPs (b : Bys) : List Page := datN (needN b.length) b
def qData_P (b : Bys) : Bool := decide (b.length ≤ 1000000)
def qData_r (b : Bys) : List Page := dataPs b

/- Operations. -/
def wrO (a : Int) (ps : List Page) : DOp := (0, (a, (ps, ())))
def syO : DOp := (1, (0, ([], ())))
def lWrite_P (_ : Int) (_ : List Page) : Bool := true
def lWrite_r (a : Int) (ps : List Page) : DOp := wrO a ps
def lSync_P : Bool := true
def lSync_r : DOp := syO
def fmtO (n : Int) : List DOp := if 2 ≤ n ∧ n ≤ 8192 then [wrO 0 (List.replicate n.toNat z16), syO, wrO 0 [headP], syO] else []
def fmtL (n : Int) : LogT := if 2 ≤ n ∧ n ≤ 8192 then (1, (0, (n, ()))) else log0
def fmtE (n : Int) : Int := if 2 ≤ n ∧ n ≤ 8192 then 0 else 2
def lFormat_P (_ : Int) : Bool := true
def lFormat_r0 (n : Int) : LogT := fmtL n
def lFormat_r1 (n : Int) : List DOp := fmtO n
def lFormat_r2 (n : Int) : Int := fmtE n
def qFormat_P (_ : Int) : Bool := true
def qFormat_r0 (n : Int) : LogT := fmtL n
def qFormat_r1 (n : Int) : List DOp := fmtO n
def qFormat_r2 (n : Int) : Int := fmtE n
def appE (l : LogT) (b : Bys) : Int := if chkL l = 0 then (if b.length > 65536 then 5 else if l.2.2.1 - l.1 < needN b.length + 1 then 11 else 0) else chkL l
def appK (l : LogT) (b : Bys) : List DOp := (if b = [] then [] else [wrO l.1 (dataPs b), syO]) ++ [wrO (l.1 + needN b.length) [comP b (l.2.1 + 1).toNat], syO]
def appO (l : LogT) (b : Bys) : List DOp := if appE l b = 0 then appK l b else []
def nextL (l : LogT) (b : Bys) : LogT := (l.1 + needN b.length + 1, (l.2.1 + 1, (l.2.2.1, ())))
def appL (l : LogT) (b : Bys) : LogT := if appE l b = 0 then nextL l b else log0
def lAppend_P (_ : LogT) (_ : Bys) : Bool := true
def lAppend_r0 (l : LogT) (b : Bys) : LogT := appL l b
def lAppend_r1 (l : LogT) (b : Bys) : List DOp := appO l b
def lAppend_r2 (l : LogT) (b : Bys) : Int := appE l b
def qAppend_P (_ : LogT) (_ : Bys) : Bool := true
def qAppend_r0 (l : LogT) (b : Bys) : LogT := appL l b
def qAppend_r1 (l : LogT) (b : Bys) : List DOp := appO l b
def qAppend_r2 (l : LogT) (b : Bys) : Int := appE l b

/- Reading. -/
def isDat (p : Page) : Bool := decide ((p.getD 0 0).toNat = 1)
def payOf (ps : List Page) : Bys := ps.flatMap fun p => (p.drop 1).take 15
def cfB_P (b : Bys) (_ : Nat) : Bool := decide (b.length ≤ 1000000000)
def nonZero (b : Bys) : Bool := b.any fun x => decide (x.toNat ≠ 0)
def cfB_r (b : Bys) (_ : Nat) : Bool := nonZero b
def okCom (p : Page) (num : Int) (k : Nat) (pay : Bys) : Bool :=
  decide ((p.getD 0 0).toNat = 2 ∧ (fld p 1 4 : Int) = num ∧ fld p 5 3 = k ∧ fld p 8 4 ≤ 65536 ∧ needN (fld p 8 4) = k) && (!nonZero (pay.drop (fld p 8 4)) && decide (fld p 12 4 = crcN (pay.take (fld p 8 4))))
def readP (l : List Page) (num : Int) : Option (Bys × List Page) :=
  match l.dropWhile isDat with
  | [] => none
  | p :: r => if okCom p num (l.takeWhile isDat).length (payOf (l.takeWhile isDat)) then some ((payOf (l.takeWhile isDat)).take (fld p 8 4), r) else none
def scanF : Nat → List Page → Int → List Bys × List Page
  | 0, l, _ => ([], l)
  | n + 1, l, num => match readP l num with
    | none => ([], l)
    | some (b, r) => (b :: (scanF n r (num + 1)).1, (scanF n r (num + 1)).2)
def scanP (l : List Page) (first : Int) : List Bys × List Page := if 1 ≤ first ∧ first ≤ 8192 then scanF l.length l first else ([], l)
def pg16 (l : List Page) : Bool := l.all fun p => decide (p.length = 16)
def lScan_P (l : List Page) (_ : Int) : Bool := decide (l.length ≤ 1000000) && pg16 l
def lScan_r0 (l : List Page) (first : Int) : List Bys := (scanP l first).1
def lScan_r1 (l : List Page) (first : Int) : Int := (l.length : Int) - ((scanP l first).2.length : Int)
def qComplete_P (l : List Page) (num : Int) : Bool := decide (l.length ≤ 1000000 ∧ 0 ≤ num ∧ num ≤ 1000000000) && pg16 l
def qComplete_r0 (l : List Page) (num : Int) : Bys := match readP l num with | some (b, _) => b | none => []
def qComplete_r1 (l : List Page) (num : Int) : Int := match readP l num with | some (_, r) => (l.length : Int) - r.length | none => 0
def qComplete_r2 (l : List Page) (num : Int) : Bool := (readP l num).isSome
def qScan_P (l : List Page) (first : Int) : Bool := lScan_P l first
def qScan_r0 (l : List Page) (first : Int) : List Bys := (scanP l first).1
def qScan_r1 (l : List Page) (first : Int) : Int := lScan_r1 l first
def opE (d : DK) : Int := if chkD d = 0 then (if d.1.length < 2 then 2 else if (conS d).getD 0 z16 = headP then 0 else 3) else chkD d
def opL (d : DK) : LogT := if opE d = 0 then (1 + lScan_r1 (conS d).tail 1, (((scanP (conS d).tail 1).1.length : Int), ((d.1.length : Int), ()))) else log0
def opB (d : DK) : List Bys := if opE d = 0 then (scanP (conS d).tail 1).1 else []
def dk16 (d : DK) : Bool := pg16 d.1 && d.2.1.all fun p => decide (p.2.1.length = 16)
def lOpen_P (d : DK) : Bool := smallD d && dk16 d
def lOpen_r0 (d : DK) : LogT := opL d
def lOpen_r1 (d : DK) : List Bys := opB d
def lOpen_r2 (d : DK) : Int := opE d
def qOpen_P (d : DK) : Bool := smallD d && dk16 d
def qOpen_r0 (d : DK) : LogT := opL d
def qOpen_r1 (d : DK) : List Bys := opB d
def qOpen_r2 (d : DK) : Int := opE d
def qSameB_P (a b : List Bys) : Bool := decide (a.length ≤ 1000000000000 ∧ b.length ≤ 1000000000000)
def qSameB_r (a b : List Bys) : Bool := decide (a = b)
def opsS (a : List DOp) : Bool := decide (a.length ≤ 1000000000000) && a.all fun o => decide (o.2.2.1.length ≤ 1000000000000)
def rSameOps_P (a b : List DOp) : Bool := opsS a && opsS b
def rSameOps_r (a b : List DOp) : Bool := decide (a = b)

/- The laws' own functions. -/
def ran_P (d : DK) (l : List DOp) (_ : Int) : Bool := runP d l
def ran_r0 (d : DK) (l : List DOp) (_ : Int) : DK := (runD d l).1
def ran_r1 (d : DK) (l : List DOp) (e : Int) : Bool := decide (e = 0 ∧ (runD d l).2.2 = 0)
def lfew_P (_ : List Bys) : Bool := true
def lfew_r (l : List Bys) : Bool := (l.take 20).all (fun x => decide (x.length ≤ 100)) && decide (l.length ≤ 20)
def begD : DK := (headP :: List.replicate 99 z16, ([], ()))
def lBegin_P (old : List Page) : Bool := decide (old.length ≤ 1000000000)
def lBegin_r0 (_ : List Page) : DK := begD
def lBegin_r1 (_ : List Page) : LogT := (1, (0, (100, ())))
def lBegin_r2 (_ : List Page) : Bool := true
def law49_awake_r : Bool := true
end Go.AI
