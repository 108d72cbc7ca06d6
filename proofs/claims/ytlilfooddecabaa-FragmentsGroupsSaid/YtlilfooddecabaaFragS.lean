/- What the functions of fragments and of its reference answer. -/
import Derived.Test.YtlilfooddecabaaDigestS
namespace Go.AI
open Go

abbrev Itm := List UInt8 × (Int × (Int × (Int × Unit)))
abbrev Frg := List Itm × Unit
def fr0 : Frg := ([], ())
def btw (n lo hi : Int) : Bool := decide (lo ≤ n ∧ n ≤ hi)
def plcI (len block at_ : Int) : Bool := decide (0 ≤ block ∧ block ≤ 4095 ∧ 0 ≤ at_ ∧ at_ ≤ 65536 - len)
def isI (d : List UInt8) (n : Int) (x : Itm) : Bool := decide (x.1 = d ∧ x.2.1 = n)
def hasI (l : List Itm) (d : List UInt8) (n : Int) : Bool := l.any (isI d n)
/-- Where an item with a digest and a length stands first. -/
def idxI (d : List UInt8) (n : Int) : List Itm → Nat
  | [] => 0
  | x :: l => if isI d n x then 0 else idxI d n l + 1
def okI (x : Itm) : Bool := btw x.2.1 1 65536 && (decide (x.2.2.1 = -1 ∧ x.2.2.2.1 = 0) || plcI x.2.1 x.2.2.1 x.2.2.2.1)
def goI : List Itm → List Itm → Int
  | _, [] => 0
  | p, x :: r => if okI x then (if hasI p x.1 x.2.1 then 8 else goI (p ++ [x]) r) else 2
def chkI (f : Frg) : Int := if f.1.length > 4096 then 6 else goI [] f.1
def addK (f : Frg) (b : List UInt8) : Frg × (Int × (Bool × Int)) :=
  if b.length > 65536 then (fr0, (0, (false, 5))) else if b.length = 0 then (fr0, (0, (false, 1)))
  else if hasI f.1 (dSum_r b) b.length then (f, (((idxI (dSum_r b) b.length f.1 : Nat) : Int), (false, 0)))
  else if f.1.length ≥ 4096 then (fr0, (0, (false, 11)))
  else ((f.1 ++ [(dSum_r b, ((b.length : Int), (-1, (0, ()))))], ()), (((f.1.length : Nat) : Int), (true, 0)))
def addI_ (f : Frg) (b : List UInt8) : Frg × (Int × (Bool × Int)) := if chkI f = 0 then addK f b else (fr0, (0, (false, chkI f)))
def itm0 : Itm := (List.replicate 32 0, (0, (0, (0, ()))))
def plaK (f : Frg) (k block at_ : Int) : Frg × Int :=
  if 0 ≤ k ∧ k < f.1.length then
    if (f.1.getD k.toNat itm0).2.2.1 = -1 then
      if plcI (f.1.getD k.toNat itm0).2.1 block at_ then ((f.1.set k.toNat ((f.1.getD k.toNat itm0).1, ((f.1.getD k.toNat itm0).2.1, (block, (at_, ())))), ()), 0)
      else (fr0, 2)
    else (fr0, 12)
  else (fr0, 7)
def plaI (f : Frg) (k block at_ : Int) : Frg × Int := if chkI f = 0 then plaK f k block at_ else (fr0, chkI f)
def sumI (l : List Itm) : Int := (l.map fun x => if x.2.2.1 = -1 then 0 else x.2.1).sum

def between_r (n lo hi : Int) : Bool := btw n lo hi
def placed_P (len _ _ : Int) : Bool := btw len 1 65536
def placed_r (len block at_ : Int) : Bool := plcI len block at_
def fCheck_P (_ : Frg) : Bool := true
def fCheck_r (f : Frg) : Int := chkI f
def fFind_P (_ : Frg) (_ : List UInt8) (_ : Int) : Bool := true
def fFind_r0 (f : Frg) (d : List UInt8) (n : Int) : Int := if chkI f = 0 ∧ hasI f.1 d n = true then (idxI d n f.1 : Nat) else 0
def fFind_r1 (f : Frg) (d : List UInt8) (n : Int) : Bool := decide (chkI f = 0) && hasI f.1 d n
def fAdd_P (_ : Frg) (_ : List UInt8) : Bool := true
def fAdd_r0 (f : Frg) (b : List UInt8) : Frg := (addI_ f b).1
def fAdd_r1 (f : Frg) (b : List UInt8) : Int := (addI_ f b).2.1
def fAdd_r2 (f : Frg) (b : List UInt8) : Bool := (addI_ f b).2.2.1
def fAdd_r3 (f : Frg) (b : List UInt8) : Int := (addI_ f b).2.2.2
def fPlace_P (_ : Frg) (_ _ _ : Int) : Bool := true
def fPlace_r0 (f : Frg) (k b a : Int) : Frg := (plaI f k b a).1
def fPlace_r1 (f : Frg) (k b a : Int) : Int := (plaI f k b a).2
def fStored_P (_ : Frg) : Bool := true
def fStored_r0 (f : Frg) : Int := if chkI f = 0 then sumI f.1 else 0
def fStored_r1 (f : Frg) : Int := chkI f
def qFew_r (f : Frg) : Bool := decide (f.1.length ≤ 100)
def qfind_P (l : List Itm) (_ : List UInt8) (_ : Int) : Bool := decide (l.length ≤ 1000000000)
def qfind_r (l : List Itm) (d : List UInt8) (n : Int) : Int := if hasI l d n then (idxI d n l : Nat) else -1
def qplace_P (len _ _ : Int) : Bool := btw len 1 65536
def qplace_r (len block at_ : Int) : Bool := plcI len block at_
def qCheck_P (_ : Frg) : Bool := true
def qCheck_r (f : Frg) : Int := chkI f
def qFind_P (_ : Frg) (_ : List UInt8) (_ : Int) : Bool := true
def qFind_r0 (f : Frg) (d : List UInt8) (n : Int) : Int := fFind_r0 f d n
def qFind_r1 (f : Frg) (d : List UInt8) (n : Int) : Bool := fFind_r1 f d n
def qCopy_P (f : Frg) : Bool := decide (f.1.length ≤ 1000000000)
def qCopy_r (f : Frg) : Frg := f
def qAdd_P (_ : Frg) (_ : List UInt8) : Bool := true
def qAdd_r0 (f : Frg) (b : List UInt8) : Frg := (addI_ f b).1
def qAdd_r1 (f : Frg) (b : List UInt8) : Int := (addI_ f b).2.1
def qAdd_r2 (f : Frg) (b : List UInt8) : Bool := (addI_ f b).2.2.1
def qAdd_r3 (f : Frg) (b : List UInt8) : Int := (addI_ f b).2.2.2
def qPlace_P (_ : Frg) (_ _ _ : Int) : Bool := true
def qPlace_r0 (f : Frg) (k b a : Int) : Frg := (plaI f k b a).1
def qPlace_r1 (f : Frg) (k b a : Int) : Int := (plaI f k b a).2
def qStored_P (_ : Frg) : Bool := true
def qStored_r0 (f : Frg) : Int := if chkI f = 0 then sumI f.1 else 0
def qStored_r1 (f : Frg) : Int := chkI f
def qSame_P (a b : Frg) : Bool := decide (a.1.length ≤ 1000000000000 ∧ b.1.length ≤ 1000000000000)
def qSame_r (a b : Frg) : Bool := decide (a = b)
def qSameInts_P (a b : List Int) : Bool := decide (a.length ≤ 1000000000000 ∧ b.length ≤ 1000000000000)
def qSameInts_r (a b : List Int) : Bool := decide (a = b)
/-- Groups: what is gathered from place i on, behind a group with a sum. -/
def grpI (most : Int) : List Int → Nat → Int → List Int → List (List Int)
  | [], _, _, g => if g = [] then [] else [g]
  | n :: r, i, s, g => if g ≠ [] ∧ s + n > most then g :: grpI most r (i + 1) n [(i : Int)] else grpI most r (i + 1) (s + n) (g ++ [(i : Int)])
def grpE (l : List Int) (most : Int) : Int := if l.length > 4096 then 6 else if btw most 1 65536 = true ∧ (l.all fun n => btw n 1 65536) = true then 0 else 2
def fGroups_P (_ : List Int) (_ : Int) : Bool := true
def fGroups_r0 (l : List Int) (most : Int) : List (List Int) := if grpE l most = 0 then grpI most l 0 0 [] else []
def fGroups_r1 (l : List Int) (most : Int) : Int := grpE l most
def shortG (a : List (List Int)) : Bool := decide (a.length ≤ 1000000000000) && a.all fun x => decide (x.length ≤ 1000000000000)
def qSameGroups_P (a b : List (List Int)) : Bool := shortG a && shortG b
def qSameGroups_r (a b : List (List Int)) : Bool := decide (a = b)
def law46_few_P (_ : List (List UInt8)) : Bool := true
def law46_few_r (l : List (List UInt8)) : Bool := (l.take 30).all (fun x => decide (x.length ≤ 300)) && decide (l.length ≤ 30)
def law46_sizes_P (l : List UInt8) : Bool := decide (l.length ≤ 1000000)
def law46_sizes_r (l : List UInt8) : List Int := l.map fun x => ((x.toNat % 64 + 1 : Nat) : Int)
def collAt (l : List (List UInt8)) (i k : Nat) : Bool := decide ((l.getD i []).length = (l.getD k []).length ∧ l.getD i [] ≠ l.getD k [] ∧ rSum_r (l.getD i []) = rSum_r (l.getD k []))
def qCollide_P (l : List (List UInt8)) : Bool := decide (l.length ≤ 1000000) && l.all fun x => decide (x.length ≤ 1000000000)
def qCollide_r (l : List (List UInt8)) : Bool := (List.range l.length).any fun i => (List.range i).any (collAt l i)
def law46_awake_r : Bool := true
end Go.AI
