/- The abstract machine: it runs the code of the model over plain values, with no addresses, no capacities, no drawn orders. -/
import Derived.Test.YtadpmbipdafjiaaData
namespace Go.AI
open Go Go.RowKit

/-- What a slot holds, abstractly. -/
inductive AV where
  /-- plain data, whose memory nobody writes -/
  | dat (s : Sch) (x : s.T)
  /-- a slice, as dat, whose capacity is its length -/
  | slx (s : Sch) (xs : List s.T)
  /-- the nil slice -/
  | nils
  /-- a slice of capacity 0 -/
  | emp
  /-- all of a row of the call's own -/
  | row (o : Nat)
  /-- a part of an object's elements -/
  | sl (o off len : Nat)
  /-- a pointer to memory that nobody writes -/
  | vptr (s : Sch) (x : s.T)
  /-- a pointer into an object -/
  | ptr (o : Nat) (p : List Nat)
  | pr (a b : AV)
  | un
  | fn (f : FuncId) (caps : AV)
  | nilfn
  | tup (a : AV)
  | dead
  deriving Inhabited

/-- An object of the call's own. -/
inductive AObj where
  | row (E : TypeId) (s : Sch) (xs : List s.T) (fz : Bool)
  | box (v : AV)
  | gone
  | free
  deriving Inhabited

def AObj.live : AObj → Bool
  | .row _ _ _ _ => true
  | .box _ => true
  | _ => false

structure ASt where
  cur : List AV
  stk : List (List AV)
  heap : List AObj
  deriving Inhabited

/-- What is known of a type of the program. -/
inductive TK where
  | other
  | func
  | slice (e : TypeId)
  | array (n : Nat) (e : TypeId)
  | struct (fs : List (Nat × TypeId))
  | ptr (e : TypeId)
  | map (k v : TypeId)
  deriving DecidableEq, Inhabited
structure TI where
  kind : TK
  cells : Nat
  sch : Option Sch
  deriving DecidableEq, Inhabited
def TI.agg (t : TI) : Bool :=
  match t.kind with
  | .array _ _ => true
  | .struct _ => true
  | _ => false

def castT {s t : Sch} (h : s = t) (x : s.T) : t.T := h ▸ x

def AV.agg : AV → Bool
  | .dat s _ => s.agg
  | .pr _ _ => true
  | .un => true
  | _ => false
def AV.cells : AV → Nat
  | .dat s _ => s.cells
  | .pr a b => a.cells + b.cells
  | .un => 0
  | _ => 1
def AV.isTup : AV → Bool
  | .tup _ => true
  | _ => false
/-- Only these stand in memory. -/
def AV.stands : AV → Bool
  | .tup _ => false
  | .dead => false
  | .pr a b => a.stands && b.stands
  | _ => true

/-- Pairs of plain data are plain data. -/
def AV.mkPr : AV → AV → AV
  | .dat s x, .dat t y => .dat (.pair s t) (x, y)
  | a, b => .pr a b

/-- A part: a field of a struct, an element of an array. -/
def AV.comp : AV → Nat → AV
  | .pr a _, 0 => a
  | .pr _ b, k + 1 => b.comp k
  | .dat (.pair a _) x, 0 => .dat a x.1
  | .dat (.pair _ b) x, k + 1 => (AV.dat b x.2).comp k
  | _, _ => .dead
def AV.setComp : AV → Nat → AV → Option AV
  | .pr _ b, 0, u => some (.mkPr u b)
  | .pr a b, k + 1, u => (b.setComp k u).map (AV.mkPr a)
  | .dat (.pair _ b) x, 0, u => some (.mkPr u (.dat b x.2))
  | .dat (.pair a b) x, k + 1, u => ((AV.dat b x.2).setComp k u).map (AV.mkPr (.dat a x.1))
  | _, _, _ => none
def AV.sub (v : AV) (i : Nat) : AV :=
  match v with
  | .dat (.arr _ s) xs => .dat s (xs.getD i s.dflt)
  | v => v.comp i
def AV.setSub (v : AV) (i : Nat) (u : AV) : Option AV :=
  match v with
  | .dat (.arr n s) xs => match u with
    | .dat t y => if h : t = s then some (.dat (.arr n s) (xs.set i (castT h y))) else none
    | _ => none
  | v => v.setComp i u
def AV.get : AV → List Nat → AV
  | v, [] => v
  | v, i :: p => (v.sub i).get p

/-- The layout in cells. -/
inductive Lay where
  | one
  | unit
  | pair (a b : Lay)
  | arr (n : Nat) (a : Lay)
  deriving DecidableEq, Inhabited
def Sch.lay : Sch → Lay
  | .arr n s => .arr n s.lay
  | .pair a b => .pair a.lay b.lay
  | .unit => .unit
  | _ => .one
def AV.lay : AV → Lay
  | .dat s _ => s.lay
  | .pr a b => .pair a.lay b.lay
  | .un => .unit
  | _ => .one
def Lay.cells : Lay → Nat
  | .one => 1
  | .unit => 0
  | .pair a b => a.cells + b.cells
  | .arr n a => n * a.cells
def Lay.agg : Lay → Bool
  | .one => false
  | _ => true
/-- The k-th part: its cell and its layout. -/
def Lay.comp : Lay → Nat → Option (Nat × Lay)
  | .pair a _, 0 => some (0, a)
  | .pair a b, k + 1 => (b.comp k).map fun x => (a.cells + x.1, x.2)
  | _, _ => none
def Lay.sub (l : Lay) (i : Nat) : Option (Nat × Lay) :=
  match l with
  | .arr n a => if i < n then some (i * a.cells, a) else none
  | l => l.comp i
def Lay.at_ : Lay → List Nat → Option (Nat × Lay)
  | l, [] => some (0, l)
  | l, i :: p => (l.sub i).bind fun x => (x.2.at_ p).map fun y => (x.1 + y.1, y.2)

def AV.put : AV → List Nat → AV → Option AV
  | v, [], u => if u.stands && u.lay == v.lay then some u else none
  | v, i :: p, u => ((v.sub i).put p u).bind fun z => v.setSub i z

/-- The elements of an object. -/
structure Elems where
  s : Sch
  xs : List s.T
def AObj.elems : AObj → Option Elems
  | .row _ s xs _ => some ⟨s, xs⟩
  | .box (.dat (.arr _ s) xs) => some ⟨s, xs⟩
  | _ => none
/-- An object's contents as one value. -/
def AObj.av : AObj → AV
  | .row _ s xs _ => .dat (.arr xs.length s) xs
  | .box v => v
  | _ => .dead
def boxSch : AV → Option (Nat × Sch)
  | .dat (.arr n s) _ => some (n, s)
  | _ => none
def AObj.back (ob : AObj) (z : AV) : Option AObj :=
  match ob with
  | .row E s _ false => match z with
    | .dat (.arr _ t) ys => if h : t = s then some (.row E s (castT (s := .slc t) (t := .slc s) (by rw [h]) ys) false) else none
    | _ => none
  | .box v => if boxSch z = boxSch v then some (.box z) else none
  | _ => none
def AObj.get (ob : AObj) (p : List Nat) : AV := ob.av.get p
def AObj.put (ob : AObj) (p : List Nat) (u : AV) : Option AObj := (ob.av.put p u).bind ob.back

def ASt.obj (H : List AObj) (o : Nat) : AObj := H.getD o .free

/-- Changes of objects. -/
abbrev Upd := List (Nat × AObj)
def upd (H : List AObj) (U : Upd) : List AObj := U.foldl (fun H x => H.set x.1 x.2) H

/-- The elements of a slice. -/
def elemsOf (H : List AObj) : AV → Option Elems
  | .dat (.slc s) xs => some ⟨s, xs⟩
  | .slx s xs => some ⟨s, xs⟩
  | .row o => (ASt.obj H o).elems
  | .sl o off len => match (ASt.obj H o).elems with
    | some e => some ⟨e.s, (e.xs.drop off).take len⟩
    | none => none
  | _ => none
/-- The elements of a slice whose shape is known. -/
def elemsAs (H : List AObj) (s : Sch) (v : AV) : Option (List s.T) :=
  match v with
  | .nils => some []
  | .emp => some []
  | v => match elemsOf H v with
    | some e => if h : e.s = s then some (castT (s := .slc e.s) (t := .slc s) (by rw [h]) e.xs) else none
    | none => none
/-- The elements of what is appended or copied: a slice's, or a string's bytes. -/
def srcElems (H : List AObj) (s : Sch) (v : AV) : Option (List s.T) :=
  match v with
  | .dat .str b => elemsAs H s (.dat (.slc (.int .u8)) b)
  | v => elemsAs H s v
/-- A length. -/
def lenOf (H : List AObj) : AV → Option Nat
  | .dat .str x => some x.length
  | .nils => some 0
  | .emp => some 0
  | .sl o _ len => (ASt.obj H o).elems.map fun _ => len
  | v => (elemsOf H v).map fun e => e.xs.length

/-- The objects that a value names. -/
def AV.refs : AV → List Nat
  | .row o => [o]
  | .sl o _ _ => [o]
  | .ptr o _ => [o]
  | .pr a b => a.refs ++ b.refs
  | .fn _ c => c.refs
  | .tup a => a.refs
  | _ => []

/-- May an object's elements be read as plain data? b: for the time of a call; else: for good, once it is frozen. -/
def AObj.plain (b : Bool) : AObj → Bool
  | .row _ _ _ _ => true
  | .box _ => b
  | _ => false
/-- A value as plain data of a shape. -/
def toDat (b : Bool) (H : List AObj) : (s : Sch) → AV → Option s.T
  | s, .dat t x => if h : t = s then some (castT h x) else none
  | .slc s, .slx t xs => if h : t = s then some (castT (s := .slc t) (t := .slc s) (by rw [h]) xs) else none
  | .slc _, .nils => some []
  | .slc _, .emp => some []
  | .slc s, .row o => if (ASt.obj H o).plain b then elemsAs H s (.row o) else none
  | .slc s, .sl o i n => if (ASt.obj H o).plain b then elemsAs H s (.sl o i n) else none
  | .pair a c, .pr u v => match toDat b H a u, toDat b H c v with
    | some x, some y => some (x, y)
    | _, _ => none
  | .unit, .un => some ()
  | _, _ => none
def freezeObj : AObj → AObj
  | .row E s xs _ => .row E s xs true
  | o => o
/-- The objects behind a value, frozen. -/
def freezes (H : List AObj) (v : AV) : Upd := v.refs.map fun o => (o, freezeObj (ASt.obj H o))

/-- A new object, in a place that is free. -/
def newObj? (H : List AObj) (n : Nat) (ob : AObj) : Option Upd :=
  if n < H.length then match ASt.obj H n with
    | .free => some [(n, ob)]
    | _ => none
  else none

end Go.AI
