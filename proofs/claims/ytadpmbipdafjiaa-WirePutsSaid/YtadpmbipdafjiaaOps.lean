/- The abstract machine's operations: each gives a condition, a value, and the objects behind it. -/
import Derived.Test.YtadpmbipdafjiaaAbs
namespace Go.AI
open Go Go.RowKit

abbrev Gam := List (Option TI)
def Gam.at_ (Γ : Gam) (t : TypeId) : Option TI := (Γ[t]?).join
def Gam.sch (Γ : Gam) (t : TypeId) : Option Sch := (Γ.at_ t).bind (·.sch)
/-- The element's type and shape of a slice type. -/
def Gam.elem (Γ : Gam) (t : TypeId) : Option (TypeId × Sch) :=
  match Γ.at_ t with
  | some { kind := .slice e, .. } => (Γ.sch e).map fun s => (e, s)
  | _ => none

/-- The greatest length of a slice that the machine makes. -/
def big : Nat := 2147483648

abbrev Ans := Option (Bool × AV × Upd)

def constAV : Value → AV
  | .int k n => if (Lit.int k n).wf then .dat (.int k) (ofI k n) else .dead
  | .bool b => .dat .bool b
  | .string s => if s.size ≤ maxLen then .dat .str s.data.toList else .dead
  | .slice none 0 0 => .nils
  | .nilFunc => .nilfn
  | _ => .dead
def opnd (cur : List AV) : Operand → AV
  | .tmp t => cur.getD t .dead
  | .const v => constAV v
  | .global _ => .dead
  | .func f => .fn f .un

def wAdd (k : IntKind) (a b : IT k) : IT k := ofI k (k.wrap (toI k a + toI k b))
def wSub (k : IntKind) (a b : IT k) : IT k := ofI k (k.wrap (toI k a - toI k b))
def wMul (k : IntKind) (a b : IT k) : IT k := ofI k (k.wrap (toI k a * toI k b))
def wQuo (k : IntKind) (a b : IT k) : IT k := ofI k (k.wrap ((toI k a).tdiv (toI k b)))
def wRem (k : IntKind) (a b : IT k) : IT k := ofI k ((toI k a).tmod (toI k b))
def wAnd (k : IntKind) (a b : IT k) : IT k := ofI k (k.wrap (BitVec.ofInt k.bits (toI k a) &&& BitVec.ofInt k.bits (toI k b)).toNat)
def wOr (k : IntKind) (a b : IT k) : IT k := ofI k (k.wrap (BitVec.ofInt k.bits (toI k a) ||| BitVec.ofInt k.bits (toI k b)).toNat)
def wXor (k : IntKind) (a b : IT k) : IT k := ofI k (k.wrap (BitVec.ofInt k.bits (toI k a) ^^^ BitVec.ofInt k.bits (toI k b)).toNat)
def wAndNot (k : IntKind) (a b : IT k) : IT k := ofI k (k.wrap (BitVec.ofInt k.bits (toI k a) &&& ~~~BitVec.ofInt k.bits (toI k b)).toNat)
def wNot (k : IntKind) (a : IT k) : IT k := ofI k (k.wrap (BitVec.ofInt k.bits (if k.signed then -1 else k.max) ^^^ BitVec.ofInt k.bits (toI k a)).toNat)
def wNeg (k : IntKind) (a : IT k) : IT k := ofI k (k.wrap (0 - toI k a))
def wShl (k : IntKind) (a : IT k) (n : Int) : IT k := ofI k (k.wrap (toI k a * 2 ^ (min n.toNat k.bits)))
def wShr (k : IntKind) (a : IT k) (n : Int) : IT k := ofI k ((toI k a).fdiv (2 ^ (min n.toNat k.bits)))
def wConv (j k : IntKind) (a : IT j) : IT k := ofI k (k.wrap (toI j a))
def wMin (k : IntKind) (a b : IT k) : IT k := if toI k b < toI k a then b else a
def wMax (k : IntKind) (a b : IT k) : IT k := if toI k b > toI k a then b else a

def nonNeg (k : IntKind) (n : Int) : Bool :=
  match k with
  | .u8 => true
  | .u16 => true
  | .u32 => true
  | .u64 => true
  | _ => decide (0 ≤ n)

/-- '==' on plain data. -/
def Sch.beq : (s : Sch) → s.T → s.T → Bool
  | .int k, a, b => toI k a == toI k b
  | .bool, a, b => a == b
  | .str, a, b => a == b
  | .arr _ s, a, b => a.length == b.length && (a.zip b).all fun x => s.beq x.1 x.2
  | .pair s t, a, b => s.beq a.1 b.1 && t.beq a.2 b.2
  | .unit, _, _ => true
  | .slc _, _, _ => false
def Sch.comparable : Sch → Bool
  | .slc _ => false
  | .arr _ s => s.comparable
  | .pair a b => a.comparable && b.comparable
  | _ => true

def intBin (op : BinOp) (k : IntKind) (a b : IT k) : Option (Bool × AV) :=
  match op with
  | .add => some (true, .dat (.int k) (wAdd k a b))
  | .sub => some (true, .dat (.int k) (wSub k a b))
  | .mul => some (true, .dat (.int k) (wMul k a b))
  | .quo => some (toI k b != 0, .dat (.int k) (wQuo k a b))
  | .rem => some (toI k b != 0, .dat (.int k) (wRem k a b))
  | .and => some (true, .dat (.int k) (wAnd k a b))
  | .or => some (true, .dat (.int k) (wOr k a b))
  | .xor => some (true, .dat (.int k) (wXor k a b))
  | .andNot => some (true, .dat (.int k) (wAndNot k a b))
  | .eql => some (true, .dat .bool (toI k a == toI k b))
  | .neq => some (true, .dat .bool (toI k a != toI k b))
  | .lss => some (true, .dat .bool (decide (toI k a < toI k b)))
  | .leq => some (true, .dat .bool (decide (toI k a ≤ toI k b)))
  | .gtr => some (true, .dat .bool (decide (toI k a > toI k b)))
  | .geq => some (true, .dat .bool (decide (toI k a ≥ toI k b)))
  | _ => none
def strBin (op : BinOp) (a b : List UInt8) : Option (Bool × AV) :=
  match op with
  | .eql => some (true, .dat .bool (a == b))
  | .neq => some (true, .dat .bool (!(a == b)))
  | _ => none
def aBin (Γ : Gam) (t : TypeId) (op : BinOp) (x y : AV) : Option (Bool × AV) :=
  match x, y with
  | .dat (.int k) a, .dat (.int j) b =>
    match op with
    | .shl => some (nonNeg j (toI j b), .dat (.int k) (wShl k a (toI j b)))
    | .shr => some (nonNeg j (toI j b), .dat (.int k) (wShr k a (toI j b)))
    | op => if h : j = k then intBin op k a (castT (s := .int j) (t := .int k) (by rw [h]) b) else none
  | .dat .str a, .dat .str b => strBin op a b
  | .dat .bool a, .dat .bool b => if Γ.sch t == some .bool then match op with
    | .eql => some (true, .dat .bool (a == b))
    | .neq => some (true, .dat .bool (!(a == b)))
    | _ => none
    else none
  | _, _ => none
def aUn (op : UnOp) (x : AV) : Option AV :=
  match op, x with
  | .neg, .dat (.int k) a => some (.dat (.int k) (wNeg k a))
  | .xor, .dat (.int k) a => some (.dat (.int k) (wNot k a))
  | .not, .dat .bool b => some (.dat .bool (!b))
  | _, _ => none
/-- A value that is put among plain data: what lies behind it is frozen. -/
def asPlain (H : List AObj) (s : Sch) (v : AV) : Option (s.T × Upd) := (toDat false H s v).map fun x => (x, freezes H v)

def bldSlice (s : Sch) (cur : List AV) (H : List AObj) : List (Nat × Operand) → List s.T → Upd → Option (List s.T × Upd)
  | [], xs, U => some (xs, U)
  | (i, x) :: r, xs, U => match asPlain H s (opnd cur x) with
    | some (y, V) => if i < xs.length then bldSlice s cur H r (xs.set i y) (U ++ V) else none
    | none => none

def zcells : Sch → List Value
  | .int k => [.int k 0]
  | .bool => [.bool false]
  | .str => [.string ⟨#[]⟩]
  | .slc _ => [.slice none 0 0]
  | .arr n s => (List.replicate n (zcells s)).flatten
  | .pair a b => zcells a ++ zcells b
  | .unit => []
/-- The zero of a field, and of a struct. -/
def zeroField (Γ : Gam) (t : TypeId) : Option (AV × List Value) :=
  match Γ.at_ t with
  | some { kind := .func, .. } => some (.nilfn, [.nilFunc])
  | some ti => ti.sch.map fun s => (.dat s s.dflt, zcells s)
  | none => none
def zeroStruct (Γ : Gam) : List (Nat × TypeId) → Option (AV × List Value)
  | [] => some (.dat .unit (), [])
  | (_, t) :: r => match zeroField Γ t, zeroStruct Γ r with
    | some (u, L), some (v, M) => some (.mkPr u v, L ++ M)
    | _, _ => none
/-- The parts of a struct that is built, put in place of the zeros. -/
def bldStruct (Γ : Gam) (cur : List AV) (fs : List (Nat × TypeId)) : List (Nat × Operand) → AV → Option AV
  | [], v => some v
  | (k, x) :: r, v =>
    match fs[k]?, v.lay.comp k with
    | some (off, t), some (o, l) => match Γ.at_ t with
      | some ti =>
        let u := opnd cur x
        if o = off ∧ u.stands = true ∧ u.lay = l ∧ l.cells = ti.cells then (v.setComp k u).bind (bldStruct Γ cur fs r) else none
      | none => none
    | _, _ => none

/-- Is a slice type one of elements of so many cells? -/
def Gam.sliceOf (Γ : Gam) (t : TypeId) (n : Nat) : Bool :=
  match Γ.at_ t with
  | some { kind := .slice e, .. } => match Γ.at_ e with
    | some ti => ti.cells == n
    | none => false
  | _ => false
/-- A bound. -/
def bnd : Option AV → Option (Option Int)
  | none => some none
  | some (.dat (.int k) a) => some (some (toI k a))
  | _ => none
def okCut (n : Nat) : Option Int → Option Int → Bool
  | none, none => true
  | none, some h => decide (0 ≤ h) && decide (h ≤ n)
  | some l, none => decide (0 ≤ l) && decide (l ≤ n)
  | some l, some h => decide (0 ≤ l) && decide (l ≤ h) && decide (h ≤ n)
def cut {α : Type} (xs : List α) : Option Int → Option Int → List α
  | none, none => xs
  | none, some h => xs.take h.toNat
  | some l, none => xs.drop l.toNat
  | some l, some h => (xs.take h.toNat).drop l.toNat
def loOf : Option Int → Nat
  | none => 0
  | some l => l.toNat
def hiOf (n : Nat) : Option Int → Nat
  | none => n
  | some h => h.toNat
def aSlice (Γ : Gam) (H : List AObj) (t : TypeId) (x : AV) (lo hi mx : Option AV) : Option (Bool × AV) :=
  match bnd lo, bnd hi, mx with
  | some l, some h, none => match x with
    | .dat .str a => if Γ.sch t == some .str then some (okCut a.length l h, .dat .str (cut a l h)) else none
    | .dat (.slc s) a => if Γ.sliceOf t s.cells then some (okCut a.length l h, .dat (.slc s) (cut a l h)) else none
    | .slx s a => if Γ.sliceOf t s.cells then some (okCut a.length l h, if h.isNone then .slx s (cut a l h) else .dat (.slc s) (cut a l h)) else none
    | .row o => match (ASt.obj H o).elems with
      | some e => if Γ.sliceOf t e.s.cells then some (okCut e.xs.length l h, .sl o (loOf l) (hiOf e.xs.length h - loOf l)) else none
      | none => none
    | .sl o off n => match (ASt.obj H o).elems with
      | some e => if Γ.sliceOf t e.s.cells then some (okCut n l h, .sl o (off + loOf l) (hiOf n h - loOf l)) else none
      | none => none
    | _ => none
  | _, _, _ => none

/-- A slice with three bounds, of which the last two are the same. -/
def aSlice3 (Γ : Gam) (t : TypeId) (x : AV) (lo : Option AV) (hi mx : AV) : Option (Bool × AV) :=
  match bnd lo, bnd (some hi), bnd (some mx) with
  | some l, some (some h), some (some m) => match x with
    | .dat (.slc s) a => if Γ.sliceOf t s.cells then some (okCut a.length l (some h) && (m == h), .slx s (cut a l (some h))) else none
    | .slx s a => if Γ.sliceOf t s.cells then some (okCut a.length l (some h) && (m == h), .slx s (cut a l (some h))) else none
    | _ => none
  | _, _, _ => none
/-- Is a type an array of so many elements of so many cells? -/
def Gam.arrOf (Γ : Gam) (t : TypeId) (n k : Nat) : Bool :=
  match Γ.at_ t with
  | some { kind := .array m e, .. } => match Γ.at_ e with
    | some ti => Nat.beq m n && Nat.beq ti.cells k
    | none => false
  | _ => false
/-- A slice of an array in a variable. -/
def aSliceA (Γ : Gam) (H : List AObj) (t : TypeId) (o : Nat) (lo hi : Option AV) : Option (Bool × AV) :=
  match bnd lo, bnd hi, ASt.obj H o with
  | some l, some h, .box (.dat (.arr n s) _) => if Γ.arrOf t n s.cells then some (okCut n l h, .sl o (loOf l) (hiOf n h - loOf l)) else none
  | _, _, _ => none
def aSliceX (Γ : Gam) (H : List AObj) (t : TypeId) (x : AV) (lo hi mx : Option AV) : Option (Bool × AV) :=
  match mx with
  | some m => match hi with
    | some h => aSlice3 Γ t x lo h m
    | none => none
  | none => match x with
    | .ptr o [] => aSliceA Γ H t o lo hi
    | x => aSlice Γ H t x lo hi none

end Go.AI
