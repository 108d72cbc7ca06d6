/- The abstract machine's run: operations, regions, code, loops, calls. -/
import Derived.Test.YtadpmbipdafjiaaOps
namespace Go.AI
open Go Go.RowKit

def putDst (cur : List AV) (d : Option Tmp) (v : AV) : List AV :=
  match d with
  | some t => cur.set t v
  | none => cur

def sameOpnd : Operand → Operand → Bool
  | .tmp a, .tmp b => a == b
  | _, _ => false

def aAppend (Γ : Gam) (t : TypeId) (x y : AV) (H : List AObj) (nid : Nat) : Ans :=
  match Γ.elem t with
  | none => none
  | some (E, s) =>
    match srcElems H s y with
    | none => none
    | some ys =>
      match x with
      | .nils => (newObj? H nid (.row E s ys false)).map fun U => (decide (ys.length ≤ big), .row nid, U)
      | .emp => (newObj? H nid (.row E s ys false)).map fun U => (decide (ys.length ≤ big), .row nid, U)
      | .row o => match ASt.obj H o with
        | .row E' s' xs false => if h : E' = E ∧ s' = s then
            let zs := (castT (s := .slc s') (t := .slc s) (by rw [h.2]) xs) ++ ys
            (newObj? H nid (.row E s zs false)).map fun U => (decide (zs.length ≤ big), .row nid, (o, .gone) :: U)
          else none
        | _ => none
      | .slx s' xs => if h : s' = s then
            let zs := (castT (s := .slc s') (t := .slc s) (by rw [h]) xs) ++ ys
            some (decide (zs.length ≤ big), .dat (.slc s) zs, [])
          else none
      | _ => none

def aCopy (Γ : Gam) (t : TypeId) (x y : AV) (H : List AObj) : Ans :=
  match Γ.elem t with
  | none => none
  | some (_, s) =>
    match srcElems H s y with
    | none => none
    | some ys =>
      let at_ (o off : Nat) (len : Option Nat) : Ans :=
        let go (xs : List s.T) (back : List s.T → AObj) : Ans :=
          let n := min ys.length (len.getD xs.length)
          some (true, .dat (.int .i64) (n : Int), [(o, back (xs.take off ++ ys.take n ++ xs.drop (off + n)))])
        match ASt.obj H o with
        | .row E' s' xs false => if h : s' = s then go (castT (s := .slc s') (t := .slc s) (by rw [h]) xs) (fun zs => .row E' s zs false) else none
        | .box (.dat (.arr n s') xs) => if h : s' = s then go (castT (s := .slc s') (t := .slc s) (by rw [h]) xs) (fun zs => .box (.dat (.arr n s) zs)) else none
        | _ => none
      match x with
      | .row o => at_ o 0 none
      | .sl o off len => at_ o off (some len)
      | _ => none

/-- The elements of a slice are set to zero. -/
def aClear (Γ : Gam) (t : TypeId) (x : AV) (H : List AObj) : Ans :=
  match Γ.elem t with
  | none => none
  | some (_, s) =>
    let at_ (o off : Nat) (len : Option Nat) : Ans :=
      match ASt.obj H o with
      | .row E' s' xs false => if h : s' = s then
          let ys : List s.T := castT (s := .slc s') (t := .slc s) (by rw [h]) xs
          let n := len.getD ys.length
          some (true, .tup .un, [(o, .row E' s (ys.take off ++ List.replicate n s.dflt ++ ys.drop (off + n)) false)])
        else none
      | _ => none
    match x with
    | .row o => at_ o 0 none
    | .sl o off len => at_ o off (some len)
    | _ => none

def aLoad (Γ : Gam) (t : TypeId) (x : AV) (H : List AObj) : Ans :=
  match Γ.at_ t with
  | none => none
  | some ti =>
    let ok (v : AV) : Ans := if v.stands && v.cells == ti.cells && v.agg == ti.agg then some (true, v, []) else none
    match x with
    | .ptr o p => ok ((ASt.obj H o).get p)
    | .vptr s y => ok (.dat s y)
    | _ => none

def aStore (Γ : Gam) (t : TypeId) (x u : AV) (H : List AObj) : Ans :=
  match Γ.at_ t with
  | none => none
  | some ti =>
    match x with
    | .ptr o p =>
      if u.stands && u.cells == ti.cells then
        match (ASt.obj H o).put p u with
        | some ob => some (true, .dead, [(o, ob)])
        | none => match ti.sch with
          | some s => match asPlain H s u with
            | some (y, V) => if u.refs.contains o then none else match (ASt.obj H o).put p (.dat s y) with
              | some ob => some (true, .dead, V ++ [(o, ob)])
              | none => none
            | none => none
          | none => none
      else none
    | _ => none

def aIndexAddr (Γ : Gam) (t : TypeId) (x i : AV) (H : List AObj) : Ans :=
  match i with
  | .dat (.int k) a =>
    let n := (toI k a).toNat
    let inside (len : Nat) : Bool := decide (0 ≤ toI k a) && decide (toI k a < len)
    let fits (e : TypeId) (s : Sch) : Bool := match Γ.at_ e with | some ti => ti.cells == s.cells | none => false
    match Γ.at_ t with
    | some { kind := .slice e, .. } => match x with
      | .row o => match (ASt.obj H o).elems with
        | some el => if fits e el.s then some (inside el.xs.length, .ptr o [n], []) else none
        | none => none
      | .sl o off len => match (ASt.obj H o).elems with
        | some el => if fits e el.s then some (inside len, .ptr o [off + n], []) else none
        | none => none
      | .dat (.slc s) xs => if fits e s then some (inside xs.length, .vptr s (xs.getD n s.dflt), []) else none
      | .slx s xs => if fits e s then some (inside xs.length, .vptr s (xs.getD n s.dflt), []) else none
      | _ => none
    | some { kind := .array len e, .. } => match x with
      | .ptr o p => match (ASt.obj H o).get p with
        | .dat (.arr m s) _ => if fits e s && m == len then some (inside len, .ptr o (p ++ [n]), []) else none
        | _ => none
      | .vptr (.arr m s) xs => if fits e s && m == len then some (inside len, .vptr s (xs.getD n s.dflt), []) else none
      | _ => none
    | _ => none
  | _ => none

def aIndex (Γ : Gam) (t : TypeId) (x i : AV) : Option (Bool × AV) :=
  match i with
  | .dat (.int k) a =>
    let n := (toI k a).toNat
    let inside (len : Nat) : Bool := decide (0 ≤ toI k a) && decide (toI k a < len)
    match x with
    | .dat .str b => if Γ.sch t == some .str then some (inside b.length, .dat (.int .u8) (b.getD n 0)) else none
    | .dat (.arr m s) xs => match Γ.at_ t with
      | some { kind := .array len e, .. } => match Γ.at_ e with
        | some ti => if ti.cells == s.cells && ti.agg == s.agg && m == len then some (inside len, .dat s (xs.getD n s.dflt)) else none
        | none => none
      | _ => none
    | _ => none
  | _ => none

def fieldOf (Γ : Gam) (t : TypeId) (f : Nat) : Option (Nat × TI) :=
  match Γ.at_ t with
  | some { kind := .struct fs, .. } => match fs[f]? with
    | some (off, ft) => (Γ.at_ ft).map fun ti => (off, ti)
    | none => none
  | _ => none

def aField (Γ : Gam) (t : TypeId) (x : AV) (f : Nat) : Option AV :=
  match fieldOf Γ t f with
  | some (off, ti) =>
    let v := x.comp f
    if ((x.lay.comp f).map (·.1)) == some off && v.stands && v.cells == ti.cells && v.agg == ti.agg then some v else none
  | none => none

def aFieldAddr (Γ : Gam) (t : TypeId) (x : AV) (f : Nat) (H : List AObj) : Option AV :=
  match fieldOf Γ t f with
  | some (off, ti) =>
    if ti.cells = 0 then none else
    match x with
    | .ptr o p => if ((((ASt.obj H o).get p).lay.comp f).map (·.1)) == some off then some (.ptr o (p ++ [f])) else none
    | .vptr s y => match (AV.dat s y).comp f with
      | .dat s' y' => if ((s.lay.comp f).map (·.1)) == some off then some (.vptr s' y') else none
      | _ => none
    | _ => none
  | none => none

def aConvert (Γ : Gam) (src dst : TypeId) (x : AV) (H : List AObj) (nid : Nat) : Ans :=
  match Γ.at_ dst with
  | none => none
  | some td =>
    if (Γ.at_ src).isNone then none else
    match td.sch, x with
    | some (.int k), .dat (.int j) a => some (true, .dat (.int k) (wConv j k a), [])
    | some .str, .dat .str a => some (true, .dat .str a, [])
    | some (.slc (.int .u8)), .dat .str a => match td.kind with
      | .slice e => (newObj? H nid (.row e (.int .u8) a false)).map fun U => (decide (a.length ≤ big), .row nid, U)
      | _ => none
    | some (.slc (.int .u8)), .row o => if src == dst then
        match ASt.obj H o with
        | .row _ (.int .u8) xs false => some (!xs.isEmpty, .row o, [])
        | _ => none
      else none
    | some .str, y => match Γ.sch src with
      | some (.slc (.int .u8)) => (elemsAs H (.int .u8) y).map fun xs => (true, .dat .str xs, [])
      | _ => none
    | _, _ => none

def aMake (Γ : Gam) (t : TypeId) (l c : Operand) (cur : List AV) (H : List AObj) (nid : Nat) : Ans :=
  match Γ.elem t, opnd cur l, opnd cur c with
  | some (E, s), .dat (.int j) a, .dat (.int k) b =>
    (newObj? H nid (.row E s (List.replicate (toI j a).toNat s.dflt) false)).map fun U =>
      (decide (0 ≤ toI j a) && (sameOpnd l c || decide (toI j a ≤ toI k b)) && decide (toI k b ≤ big), .row nid, U)
  | _, _, _ => none

def aMinMax (mx : Bool) (k : IntKind) (a : IT k) : List AV → Option (IT k)
  | [] => some a
  | .dat (.int j) b :: r => if h : j = k then
      aMinMax mx k ((if mx then wMax else wMin) k a (castT (s := .int j) (t := .int k) (by rw [h]) b)) r
    else none
  | _ => none

/-- Is a length's type as its value? -/
def lenTy (Γ : Gam) (t : TypeId) : AV → Bool
  | .dat .str _ => Γ.sch t == some .str
  | _ => match Γ.at_ t with
    | some { kind := .slice _, .. } => true
    | _ => false

def aBuiltin (Γ : Gam) (b : Builtin) (ts : List TypeId) (xs : List AV) (H : List AObj) (nid : Nat) : Ans :=
  match b, ts, xs with
  | .len, [t], [x] => if lenTy Γ t x then (lenOf H x).map fun n => (true, .dat (.int .i64) (n : Int), []) else none
  | .append, [t, t'], [x, y] => if t' == t || Γ.sch t' == some .str then aAppend Γ t x y H nid else none
  | .copy, t :: _, [x, y] => aCopy Γ t x y H
  | .clear, [t], [x] => aClear Γ t x H
  | .max, _, .dat (.int k) a :: r => (aMinMax true k a r).map fun n => (true, .dat (.int k) n, [])
  | .min, _, .dat (.int k) a :: r => (aMinMax false k a r).map fun n => (true, .dat (.int k) n, [])
  | _, _, _ => none

def plainAns (r : Option (Bool × AV)) : Ans := r.map fun x => (x.1, x.2, [])
def plainAV (r : Option AV) : Ans := r.map fun x => (true, x, [])

/-- An array in a variable is no longer than slices are. -/
def boxSmall : Sch → Bool
  | .arr n _ => decide (n ≤ maxLen)
  | _ => true
def avSmall : AV → Bool
  | .dat s _ => boxSmall s
  | _ => true

/-- One operation that is no call of a function. -/
def aop (Γ : Gam) (o : Op) (cur : List AV) (H : List AObj) (nid : Nat) : Ans :=
  let e := opnd cur
  match o with
  | .move x => some (true, e x, [])
  | .assign x => some (true, e x, [])
  | .pick c a b => match e c with
    | .dat .bool true => some (true, e a, [])
    | .dat .bool false => some (true, e b, [])
    | _ => none
  | .alloc t => match Γ.sch t with
    | some s => if boxSmall s then (newObj? H nid (.box (.dat s s.dflt))).map fun U => (true, .ptr nid [], U) else none
    | none => none
  | .box _ x => if (e x).stands && avSmall (e x) then (newObj? H nid (.box (e x))).map fun U => (true, .ptr nid [], U) else none
  | .build t parts => match Γ.at_ t with
    | some { kind := .struct fs, .. } => match zeroStruct Γ fs with
      | some (z, _) => plainAV (bldStruct Γ cur fs parts.toList z)
      | none => none
    | some { kind := .array n _, sch := some (.arr m s), .. } => if m = n then (bldSlice s cur H parts.toList (List.replicate n s.dflt) []).map fun x => (true, .dat (.arr n s) x.1, x.2) else none
    | _ => none
  | .buildSlice t n parts => match Γ.elem t with
    | some (E, s) => if n ≤ 65536 ∧ n * s.cells ≤ 16777216 then match bldSlice s cur H parts.toList (List.replicate n s.dflt) [] with
        | some (xs, V) => if (V.map (·.1)).contains nid then none else (newObj? H nid (.row E s xs false)).map fun U => (true, .row nid, V ++ U)
        | none => none
      else none
    | none => none
  | .load t a => aLoad Γ t (e a) H
  | .store t a x => aStore Γ t (e a) (e x) H
  | .nilCheck x => match e x with
    | .ptr o p => if (ASt.obj H o).live then some (true, .ptr o p, []) else none
    | .vptr s y => some (true, .vptr s y, [])
    | .fn f c => some (true, .fn f c, [])
    | _ => none
  | .binOp op t x y _ => plainAns (aBin Γ t op (e x) (e y))
  | .unOp op _ x => plainAV (aUn op (e x))
  | .convert s d x => aConvert Γ s d (e x) H nid
  | .makeFunc (.func f) first caps => if first.size = 0 ∧ caps.toList.all (fun x => !(e x).isTup) then some (true, .fn f (caps.toList.foldr (fun x r => .pr (e x) r) .un), []) else none
  | .makeSlice t l c => aMake Γ t l c cur H nid
  | .slice t x lo hi mx => plainAns (aSliceX Γ H t (e x) (lo.map e) (hi.map e) (mx.map e))
  | .fieldAddr t x f => plainAV (aFieldAddr Γ t (e x) f H)
  | .field t x f => plainAV (aField Γ t (e x) f)
  | .indexAddr t x i => aIndexAddr Γ t (e x) (e i) H
  | .index t x i => plainAns (aIndex Γ t (e x) (e i))
  | .extract x i => match e x with
    | .tup v => match v.comp i with
      | .dead => none
      | u => some (true, u, [])
    | _ => none
  | .call { callee := .builtin b, args, argTypes } => aBuiltin Γ b argTypes.toList (args.toList.map e) H nid
  | _ => none

/-- Boundary values: what goes in and out of a contract. -/
inductive BV where
  | d (s : Sch) (x : s.T)
  | o (E : TypeId) (s : Sch) (xs : List s.T)
  | f (g : FuncId)
  deriving Inhabited
/-- How an argument is handed over. -/
inductive PM where
  | d (s : Sch)
  | o (E : TypeId) (s : Sch)
  | f
  deriving DecidableEq, Inhabited
def BV.mode : BV → PM
  | .d s _ => .d s
  | .o E s _ => .o E s
  | .f _ => .f
/-- A contract: how the arguments are handed over, whether nothing in the results is old memory, how many rows of the caller's own it hands out, and what it answers. -/
structure Orc where
  ps : List PM
  fresh : Bool
  rows : Nat
  fn : List BV → Option (Bool × List BV)

/-- Does plain data of a shape need no memory? -/
def Sch.flat : Sch → Bool
  | .slc _ => false
  | .arr _ s => s.flat
  | .pair a b => a.flat && b.flat
  | _ => true
def BV.flat : BV → Bool
  | .d s _ => s.flat
  | .o _ s _ => s.flat
  | .f _ => true

/-- Arguments handed over. -/
def toArg (fresh : Bool) (H : List AObj) : PM → AV → Option (BV × Upd)
  | .d s, v => (toDat fresh H s v).map fun x => (.d s x, if fresh then [] else freezes H v)
  | .o E s, .nils => some (.o E s [], [])
  | .o E s, .row o => match ASt.obj H o with
    | .row E' s' xs false => if h : E' = E ∧ s' = s then some (.o E s (castT (s := .slc s') (t := .slc s) (by rw [h.2]) xs), [(o, .gone)]) else none
    | _ => none
  | .f, .fn g .un => some (.f g, [])
  | _, _ => none
def toArgs (fresh : Bool) (H : List AObj) : List PM → List AV → Option (List BV × Upd)
  | [], [] => some ([], [])
  | m :: ms, v :: vs => match toArg fresh H m v, toArgs fresh H ms vs with
    | some (b, U), some (bs, V) => some (b :: bs, U ++ V)
    | _, _ => none
  | _, _ => none
/-- Rows that are handed over whole are handed over once, and looked at in no other way. -/
def goneOf (U : Upd) : List Nat := U.filterMap fun x => match x.2 with | .gone => some x.1 | _ => none
def onceOnly (U : Upd) (vs : List AV) : Bool := (goneOf U).all fun o => (vs.flatMap AV.refs).count o == 1

/-- Results taken over, new rows from the place nid on. -/
def ofRess (H : List AObj) : List BV → Nat → Option (List AV × Upd)
  | [], _ => some ([], [])
  | .d s x :: bs, nid => (ofRess H bs nid).map fun r => (.dat s x :: r.1, r.2)
  | .o E s xs :: bs, nid => match newObj? H nid (.row E s xs false), ofRess H bs (nid + 1) with
    | some U, some r => some (.row nid :: r.1, U ++ r.2)
    | _, _ => none
  | .f g :: bs, nid => (ofRess H bs nid).map fun r => (.fn g .un :: r.1, r.2)
def rowsOf (bs : List BV) : Nat := (bs.filter fun b => match b with | .o _ _ _ => true | _ => false).length
def packed : List AV → AV
  | [v] => v
  | vs => .tup (vs.foldr .pr .un)
def unchain : AV → Option (List AV)
  | .un => some []
  | .pr a b => (unchain b).map (a :: ·)
  | _ => none

/-- A call by its contract. -/
def aOrc (c : Orc) (args : List AV) (H : List AObj) (nid : Nat) : Ans :=
  match toArgs c.fresh H c.ps args with
  | some (bs, U) => if onceOnly U args then match c.fn bs with
    | some (pre, rs) => if rowsOf rs = c.rows ∧ (!c.fresh || rs.all BV.flat) = true then (ofRess H rs nid).map fun r => (pre, packed r.1, U ++ r.2) else none
    | none => none
    else none
  | none => none

def calleeOf (cur : List AV) (f : Operand) (args : List AV) : Option (FuncId × List AV) :=
  match opnd cur f with
  | .fn g caps => (unchain caps).map fun cs => (g, args ++ cs)
  | _ => none

/-- The book of contracts. -/
abbrev Orcs := FuncId → Option Orc

/-- How many objects an operation may make. -/
def makes (orc : Orcs) (o : Op) : Nat :=
  match o with
  | .alloc _ => 1
  | .box _ _ => 1
  | .buildSlice _ _ _ => 1
  | .convert _ _ _ => 1
  | .makeSlice _ _ _ => 1
  | .call { callee := .builtin .append, .. } => 1
  | .call { callee := .value (.func g), .. } => match orc g with
    | some c => c.rows
    | none => 0
  | .call { callee := .value _, .. } => 4
  | _ => 0
/-- One operation that is no run of a function's body. -/
def astep (Γ : Gam) (orc : Orcs) (o : Op) (cur : List AV) (H : List AObj) (nid : Nat) : Ans :=
  match o with
  | .call { callee := .value f, args, .. } => match calleeOf cur f (args.toList.map (opnd cur)) with
    | some (g, as) => match orc g with
      | some c => if c.rows ≤ makes orc o then aOrc c as H nid else none
      | none => none
    | none => none
  | o => aop Γ o cur H nid

def makesAll (orc : Orcs) : List Oper → Nat
  | [] => 0
  | o :: r => makes orc o.op + makesAll orc r

inductive AExit where
  | normal
  | exit (id : Nat)
  | ret
  deriving DecidableEq, Inhabited

abbrev CallTo (R : Type) := FuncId → List AV → ASt → (AV → ASt → Option R) → Option R

section
variable {R : Type}

/-- Is it the run of a body? -/
def bodyCall (orc : Orcs) (cur : List AV) (o : Op) : Option (FuncId × List AV) :=
  match o with
  | .call { callee := .value f, args, .. } => match calleeOf cur f (args.toList.map (opnd cur)) with
    | some (g, as) => match orc g with
      | some _ => none
      | none => some (g, as)
    | none => none
  | _ => none

/-- Both ways lead to the end. -/
def both (a b : Option R) : Option R :=
  match a with
  | some _ => b
  | none => none
/-- May a slice be nil, and may it be none? -/
def nilLen (H : List AObj) : AV → Option (Bool × Bool)
  | .nils => some (true, false)
  | .emp => some (true, true)
  | .dat (.slc _) xs => some (xs.isEmpty, true)
  | .slx _ xs => some (xs.isEmpty, true)
  | .row o => (ASt.obj H o).elems.map fun e => (e.xs.isEmpty, true)
  | .sl o _ n => (ASt.obj H o).elems.map fun _ => (Nat.beq n 0, true)
  | _ => none
def isSliceTy (Γ : Gam) (t : TypeId) : Bool :=
  match Γ.at_ t with
  | some { kind := .slice _, .. } => true
  | _ => false
/-- Is it a test of a slice against nil? -/
def nilTest (Γ : Gam) (o : Op) (cur : List AV) (H : List AObj) : Option ((Bool × Bool) × Bool) :=
  match o with
  | .binOp .eql t x (.const (.slice none 0 0)) _ => if isSliceTy Γ t then (nilLen H (opnd cur x)).map fun p => (p, false) else none
  | .binOp .neq t x (.const (.slice none 0 0)) _ => if isSliceTy Γ t then (nilLen H (opnd cur x)).map fun p => (p, true) else none
  | _ => none

def xop (Γ : Gam) (orc : Orcs) (call : CallTo R) (o : Oper) (nid : Nat) (st : ASt) (kk : ASt → Option R) : Option R :=
  match bodyCall orc st.cur o.op with
  | some (g, as) => call g as st fun v st' => kk { st' with cur := putDst st'.cur o.dst v }
  | none => match nilTest Γ o.op st.cur st.heap with
    | some ((may, non), neg) =>
      let way (b : Bool) : Option R := kk { st with cur := putDst st.cur o.dst (.dat .bool (b != neg)) }
      bif may then (bif non then both (way true) (way false) else way true) else way false
    | none => match astep Γ orc o.op st.cur st.heap nid with
      | some (c, v, U) => bif c then kk { st with cur := putDst st.cur o.dst v, heap := upd st.heap U } else none
      | none => none

def guardAt (ops : List Oper) (cur : List AV) (j : Nat) : Option (Nat × Bool) :=
  match (ops[j]?).bind (·.dst) with
  | some d => match cur.getD d .dead with
    | .dat .bool b => some (d, b)
    | _ => none
  | none => none

/-- What a slot holds whose operation was passed over. -/
abbrev und : AV := .tup .un
def isUnd : AV → Bool
  | .tup .un => true
  | _ => false
/-- Does an operation depend on one that was passed over? -/
def offGuard (all : List Oper) (cur : List AV) (o : Oper) : Bool :=
  match o.guard with
  | some (j, _) => match (all[j]?).bind (·.dst) with
    | some d => isUnd (cur.getD d .dead)
    | none => false
  | none => false

/-- The operations of a region, in the order of the text. -/
def xops (Γ : Gam) (orc : Orcs) (call : CallTo R) (all : List Oper) : List Oper → Nat → ASt → (ASt → Option R) → Option R
  | [], _, st, k => k st
  | o :: rest, nid, st, k =>
    bif offGuard all st.cur o then xops Γ orc call all rest (nid + makes orc o.op) { st with cur := putDst st.cur o.dst und } k else
    match o.guard with
    | none => xop Γ orc call o nid st fun st' => xops Γ orc call all rest (nid + makes orc o.op) st' k
    | some (j, want) => match guardAt all st.cur j with
      | none => none
      | some (d, b) =>
        let way (v : Bool) : Option R :=
          let st1 := { st with cur := st.cur.set d (.dat .bool v) }
          if v == want then xop Γ orc call o nid st1 fun st' => xops Γ orc call all rest (nid + makes orc o.op) st' k
          else xops Γ orc call all rest (nid + makes orc o.op) { st1 with cur := putDst st1.cur o.dst und } k
        bif b then way true else way false

/-- What an operation looks at, and what it changes. -/
structure FP where
  rd : List Nat
  wr : List Nat
  deriving Inhabited
def fpOf (orc : Orcs) (o : Oper) (cur : List AV) (nid : Nat) (U : Upd) : FP :=
  ⟨(o.op.operands.toList.flatMap fun x => (opnd cur x).refs) ++ (List.range (makes orc o.op)).map (nid + ·), U.map (·.1)⟩
def FP.indep (a b : FP) : Bool := (a.wr.all fun x => !(b.rd.contains x || b.wr.contains x)) && b.wr.all fun x => !a.rd.contains x

/-- The same, where the order is drawn: what each operation touches is written down, and no body is run. -/
def xopsD (Γ : Gam) (orc : Orcs) (all : List Oper) : List Oper → Nat → List AV → List AObj → List FP → (List AV → List AObj → List FP → Option R) → Option R
  | [], _, cur, H, fps, k => k cur H fps
  | o :: rest, nid, cur, H, fps, k =>
    let go (cur : List AV) : Option R := match astep Γ orc o.op cur H nid with
      | some (c, v, U) => bif c then xopsD Γ orc all rest (nid + makes orc o.op) (putDst cur o.dst v) (upd H U) (fps ++ [fpOf orc o cur nid U]) k else none
      | none => none
    bif offGuard all cur o then xopsD Γ orc all rest (nid + makes orc o.op) (putDst cur o.dst und) H (fps ++ [⟨[], []⟩]) k else
    match o.guard with
    | none => go cur
    | some (j, want) => match guardAt all cur j with
      | none => none
      | some (d, b) =>
        let way (v : Bool) : Option R :=
          let cur1 := cur.set d (.dat .bool v)
          if v == want then go cur1
          else xopsD Γ orc all rest (nid + makes orc o.op) (putDst cur1 o.dst und) H (fps ++ [⟨[], []⟩]) k
        bif b then way true else way false

/-- Slots that an operation looks at. -/
def looksAt (all : List Oper) (o : Oper) : List Tmp :=
  (o.op.operands.toList.filterMap fun | .tmp t => some t | _ => none) ++
  (match o.guard with
   | some (g, _) => ((all[g]?).bind (·.dst)).toList
   | none => [])
def apart (all : List Oper) (x y : Oper) : Bool :=
  (match x.dst with
   | some d => !(looksAt all y).contains d && y.dst != some d
   | none => true) &&
  (match y.dst with
   | some d => !(looksAt all x).contains d
   | none => true)
/-- For each operation those that stand before it in whatever order, as bits. -/
def befores : List Oper → List Nat → List Nat
  | [], acc => acc
  | o :: r, acc => befores r (acc ++ [o.after.toList.foldl (fun s e => if Region.binds .any e then s ||| 2 ^ e.on ||| acc.getD e.on 0 else s) 0])
/-- Whatever two operations may change places, do not touch each other. -/
def indepAll (ops : List Oper) (bs : List Nat) (fps : List FP) : Bool :=
  (List.range ops.length).all fun j => (List.range j).all fun i =>
    (bs.getD j 0).testBit i || (apart ops (ops.getD i default) (ops.getD j default) && (fps.getD i default).indep (fps.getD j default))
/-- The edges that bind lead back. -/
def edgesOk (ops : List Oper) : Bool :=
  (List.range ops.length).all fun j =>
    (ops.getD j default).after.toList.all fun e => !Region.binds .any e || decide (e.on < j)

/-- What is said to the machine of a function: which slots live on at a loop's head. -/
structure Hint where
  keep : Option (List Nat) := none
  own : List (Nat × TypeId) := []
  stk : List (List Nat) := []
  dat : List (Nat × TypeId) := []
  deriving Inhabited

def keepOnly (ks : List Nat) (cur : List AV) : List AV := cur.zipIdx.map fun x => if ks.contains x.2 then x.1 else .dead

/-- The same for the callers' frames. -/
def keepStk : List (List Nat) → List (List AV) → List (List AV)
  | ks :: kss, f :: fs => keepOnly ks f :: keepStk kss fs
  | _, fs => fs

def loopN (body : ASt → (AExit → ASt → Option R) → Option R) (norm : ASt → ASt) : Nat → ASt → (AExit → ASt → Option R) → Option R
  | 0, _, _ => none
  | n + 1, st, k => body st fun e st' => match e with
    | .normal => loopN body norm n (norm st') k
    | e => k e (norm st')

end
end Go.AI
