/- What the functions of disk and of its reference answer. -/
import Derived.Test.YtaobeghgcfbcfaaA5
namespace Go.AI
open Go

abbrev Page := List UInt8
abbrev Pend := Int × (Page × Unit)
abbrev DK := List Page × (List Pend × Unit)
abbrev DOp := Int × (Int × (List Page × Unit))
def dk0 : DK := ([], ([], ()))
/-- A disk's pages with all that was written. -/
def putS (s : List Page) (l : List Pend) : List Page := l.foldl (fun o p => o.set p.1.toNat p.2.1) s
def conS (d : DK) : List Page := putS d.1 d.2.1
def okP (n : Nat) (l : List Pend) : Bool := l.all fun p => decide (0 ≤ p.1 ∧ p.1 < (n : Int))
def okD (d : DK) : Bool := decide (1 ≤ d.1.length ∧ d.1.length ≤ 8192) && okP d.1.length d.2.1
def chkD (d : DK) : Int := if okD d then 0 else 2
def fitD (d : DK) (at_ n : Int) : Bool := decide (0 ≤ at_ ∧ 0 ≤ n ∧ at_ + n ≤ d.1.length)
def wrS (at_ : Int) : List Page → List Pend
  | [] => []
  | p :: l => (at_, (p, ())) :: wrS (at_ + 1) l
/-- An operation: the disk, and the error. -/
def stepD (d : DK) (op : DOp) : DK × Int :=
  if op.1 = 0 then (if fitD d op.2.1 op.2.2.1.length then ((d.1, (d.2.1 ++ wrS op.2.1 op.2.2.1, ())), 0) else (dk0, 2))
  else if op.1 = 1 then ((conS d, ([], ())), 0) else (dk0, 1)
def goD (d : DK) : List DOp → Int → DK × (Int × Int)
  | [], i => (d, (i, 0))
  | op :: l, i => if (stepD d op).2 = 0 then goD (stepD d op).1 l (i + 1) else (dk0, (i, (stepD d op).2))
def runD (d : DK) (l : List DOp) : DK × (Int × Int) := if okD d then goD d l 0 else (dk0, (0, 2))
def sumO (l : List DOp) : Nat := (l.map fun op => op.2.2.1.length).sum
def smallD (d : DK) : Bool := decide (d.1.length ≤ 1000000 ∧ d.2.1.length ≤ 100000000)
/-- A decision. -/
def decD (ch : List Int) (n : Nat) : Int := match ch with
  | [] => 0
  | c :: _ => c % n
/-- The places that are pending, in the order in which they come first. -/
def firsts : List Pend → List Int → List Int
  | [], _ => []
  | p :: l, seen => if seen.contains p.1 then firsts l seen else p.1 :: firsts l (p.1 :: seen)
def versD (d : DK) (at_ : Int) : List Page := d.1.getD at_.toNat z16 :: (d.2.1.filter fun p => p.1 == at_).map fun p => p.2.1
def crStep (d : DK) (s : List Int × List Page) (at_ : Int) : List Int × List Page :=
  (s.1.tail, s.2.set at_.toNat ((versD d at_).getD (decD s.1 (versD d at_).length).toNat z16))
def crGo (d : DK) (ch : List Int) : List Int × List Page := (firsts d.2.1 []).foldl (crStep d) (ch, d.1)
def crashD (d : DK) (ch : List Int) : DK × (List Int × Int) := if okD d then (((crGo d ch).2, ([], ())), ((crGo d ch).1, 0)) else (dk0, ([], 2))
def intD (d : DK) (l : List DOp) (after : Int) (ch : List Int) : DK × (List Int × Int) :=
  if okD d then (if 0 ≤ after ∧ after ≤ l.length then (if (runD d (l.take after.toNat)).2.2 = 0 then crashD (runD d (l.take after.toNat)).1 ch else (dk0, ([], (runD d (l.take after.toNat)).2.2))) else (dk0, ([], 2))) else (dk0, ([], 2))

def clPage_P (s : List Page) : Bool := decide (s.length ≤ 2000000000)
def clPage_r (s : List Page) : List Page := s
def clPend_P (s : List Pend) : Bool := decide (s.length ≤ 2000000000)
def clPend_r (s : List Pend) : List Pend := s
def clInt_P (s : List Int) : Bool := decide (s.length ≤ 2000000000)
def clInt_r (s : List Int) : List Int := s
def dFits_P (d : DK) (_ _ : Int) : Bool := smallD d
def dFits_r (d : DK) (at_ n : Int) : Bool := fitD d at_ n
def dNew_P (_ : Int) : Bool := true
def newD (n : Int) : DK := if 1 ≤ n ∧ n ≤ 8192 then (List.replicate n.toNat z16, ([], ())) else dk0
def newE (n : Int) : Int := if 1 ≤ n ∧ n ≤ 8192 then 0 else 2
def dNew_r0 (n : Int) : DK := newD n
def dNew_r1 (n : Int) : Int := newE n
def dCheck_P (d : DK) : Bool := smallD d
def dCheck_r (d : DK) : Int := chkD d
def contents_P (d : DK) : Bool := smallD d && okP d.1.length d.2.1
def contents_r (d : DK) : List Page := conS d
def readV (d : DK) (at_ n : Int) : List Page := if okD d && fitD d at_ n then ((conS d).drop at_.toNat).take n.toNat else []
def readE (d : DK) (at_ n : Int) : Int := if okD d && fitD d at_ n then 0 else 2
def dRead_P (d : DK) (_ _ : Int) : Bool := smallD d
def dRead_r0 (d : DK) (at_ n : Int) : List Page := readV d at_ n
def dRead_r1 (d : DK) (at_ n : Int) : Int := readE d at_ n
def runP (d : DK) (l : List DOp) : Bool := decide (d.1.length ≤ 1000000 ∧ d.2.1.length ≤ 10000000 ∧ l.length ≤ 1000000 ∧ sumO l ≤ 10000000)
def dRun_P (d : DK) (l : List DOp) : Bool := runP d l
def dRun_r0 (d : DK) (l : List DOp) : DK := (runD d l).1
def dRun_r1 (d : DK) (l : List DOp) : Int := (runD d l).2.1
def dRun_r2 (d : DK) (l : List DOp) : Int := (runD d l).2.2
def dDecide_P (_ : List Int) (n : Int) : Bool := decide (1 ≤ n ∧ n ≤ 1000000000)
def dDecide_r0 (ch : List Int) (n : Int) : Int := decD ch n.toNat
def dDecide_r1 (ch : List Int) (_ : Int) : List Int := ch.tail
def dCrash_P (d : DK) (ch : List Int) : Bool := smallD d && decide (ch.length ≤ 1000000000)
def dCrash_r0 (d : DK) (ch : List Int) : DK := (crashD d ch).1
def dCrash_r1 (d : DK) (ch : List Int) : List Int := (crashD d ch).2.1
def dCrash_r2 (d : DK) (ch : List Int) : Int := (crashD d ch).2.2
def intP (d : DK) (l : List DOp) (ch : List Int) : Bool := runP d l && decide (ch.length ≤ 1000000000)
def dInterrupt_P (d : DK) (l : List DOp) (_ : Int) (ch : List Int) : Bool := intP d l ch
def dInterrupt_r0 (d : DK) (l : List DOp) (after : Int) (ch : List Int) : DK := (intD d l after ch).1
def dInterrupt_r1 (d : DK) (l : List DOp) (after : Int) (ch : List Int) : List Int := (intD d l after ch).2.1
def dInterrupt_r2 (d : DK) (l : List DOp) (after : Int) (ch : List Int) : Int := (intD d l after ch).2.2

def rNew_P (_ : Int) : Bool := true
def rNew_r0 (n : Int) : DK := newD n
def rNew_r1 (n : Int) : Int := newE n
def rCheck_P (d : DK) : Bool := smallD d
def rCheck_r (d : DK) : Int := chkD d
def rCopy_P (d : DK) : Bool := smallD d
def rCopy_r (d : DK) : DK := d
def rSync_P (d : DK) : Bool := smallD d && okP d.1.length d.2.1
def rSync_r (d : DK) : DK := (conS d, ([], ()))
def rFits_P (d : DK) (_ _ : Int) : Bool := smallD d
def rFits_r (d : DK) (at_ n : Int) : Bool := fitD d at_ n
def rRead_P (d : DK) (_ _ : Int) : Bool := smallD d
def rRead_r0 (d : DK) (at_ n : Int) : List Page := readV d at_ n
def rRead_r1 (d : DK) (at_ n : Int) : Int := readE d at_ n
def rStep_P (d : DK) (op : DOp) : Bool := okD d && decide (d.2.1.length + op.2.2.1.length ≤ 100000000)
def rStep_r0 (d : DK) (op : DOp) : DK := (stepD d op).1
def rStep_r1 (d : DK) (op : DOp) : Int := (stepD d op).2
def rRun_P (d : DK) (l : List DOp) : Bool := runP d l
def rRun_r0 (d : DK) (l : List DOp) : DK := (runD d l).1
def rRun_r1 (d : DK) (l : List DOp) : Int := (runD d l).2.1
def rRun_r2 (d : DK) (l : List DOp) : Int := (runD d l).2.2
def rDecide_P (_ : List Int) (n : Int) : Bool := decide (1 ≤ n ∧ n ≤ 1000000000)
def rDecide_r0 (ch : List Int) (n : Int) : Int := decD ch n.toNat
def rDecide_r1 (ch : List Int) (_ : Int) : List Int := ch.tail
def rCrash_P (d : DK) (ch : List Int) : Bool := smallD d && decide (ch.length ≤ 1000000000)
def rCrash_r0 (d : DK) (ch : List Int) : DK := (crashD d ch).1
def rCrash_r1 (d : DK) (ch : List Int) : List Int := (crashD d ch).2.1
def rCrash_r2 (d : DK) (ch : List Int) : Int := (crashD d ch).2.2
def rInterrupt_P (d : DK) (l : List DOp) (_ : Int) (ch : List Int) : Bool := intP d l ch
def rInterrupt_r0 (d : DK) (l : List DOp) (after : Int) (ch : List Int) : DK := (intD d l after ch).1
def rInterrupt_r1 (d : DK) (l : List DOp) (after : Int) (ch : List Int) : List Int := (intD d l after ch).2.1
def rInterrupt_r2 (d : DK) (l : List DOp) (after : Int) (ch : List Int) : Int := (intD d l after ch).2.2
def rSamePages_P (a b : List Page) : Bool := decide (a.length ≤ 1000000000000 ∧ b.length ≤ 1000000000000)
def rSamePages_r (a b : List Page) : Bool := decide (a = b)
def rSame_P (a b : DK) : Bool := decide ((a.1.length ≤ 1000000000000 ∧ b.1.length ≤ 1000000000000) ∧ a.2.1.length ≤ 1000000000000 ∧ b.2.1.length ≤ 1000000000000)
def rSame_r (a b : DK) : Bool := decide (a = b)
def rSameInts_P (a b : List Int) : Bool := decide (a.length ≤ 1000000000000 ∧ b.length ≤ 1000000000000)
def rSameInts_r (a b : List Int) : Bool := decide (a = b)
def rFew_r (d : DK) : Bool := decide (d.1.length ≤ 500 ∧ d.2.1.length ≤ 200)
def rFewOps_P (_ : List DOp) : Bool := true
def rFewOps_r (l : List DOp) : Bool := (l.take 60).all (fun op => decide (op.2.2.1.length ≤ 100)) && decide (l.length ≤ 60)
abbrev DWr := UInt8 × (UInt8 × (Bool × Unit))
def pageV (v : UInt8) : Page := [v, 1, 0, 0, 0, 0, 0, 0, 0, 0, 0, 0, 0, 0, 0, 0]
def opW (w : DWr) : DOp := if w.2.2.1 then (1, (0, ([], ()))) else (0, (((w.1.toNat % 8 : Nat) : Int), ([pageV w.2.1], ())))
def lOps_P (l : List DWr) : Bool := decide (l.length ≤ 1000000)
def lOps_r (l : List DWr) : List DOp := l.map opW
def beh (l : List DWr) : DK := (runD (newD 8) (l.map opW)).1
def lBehind_P (l : List DWr) : Bool := decide (l.length ≤ 1000000)
def lBehind_r0 (l : List DWr) : DK := beh l
def lBehind_r1 (_ : List DWr) : Bool := true
def exPg (v : UInt8) : Page := [v, 0, 0, 0, 0, 0, 0, 0, 0, 0, 0, 0, 0, 0, 0, 0]
def lExample_P : Bool := true
def lExample_r0 : DK := ([z16, z16, z16], ([(1, (exPg 1, ())), (1, (exPg 2, ())), (0, (exPg 3, ()))], ()))
def lExample_r1 : Bool := true
def lCrashed_P (d : DK) (ch : List Int) (_ _ : UInt8) : Bool := smallD d && decide (ch.length ≤ 1000000000)
def lCrashed_r (d : DK) (ch : List Int) (a b : UInt8) : Bool := decide ((crashD d ch).2.2 = 0 ∧ (crashD d ch).1.1 = [exPg a, exPg b, z16])
def law48_awake_r : Bool := true
end Go.AI
