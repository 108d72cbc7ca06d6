/- The abstract machine's run of code and of functions. -/
import Derived.Test.YtadpmbipdafjiaaExec
namespace Go.AI
open Go Go.RowKit

def AObj.refs : AObj → List Nat
  | .box v => v.refs
  | _ => []
/-- The objects that can be reached, in the order in which they are met. -/
def reach (H : List AObj) : Nat → List Nat → List Nat → List Nat
  | 0, _, seen => seen
  | _, [], seen => seen
  | n + 1, o :: todo, seen => if seen.contains o then reach H n todo seen else reach H n ((ASt.obj H o).refs ++ todo) (seen ++ [o])
def AV.rename (f : Nat → Option Nat) : AV → AV
  | .row o => match f o with | some i => .row i | none => .dead
  | .sl o a n => match f o with | some i => .sl i a n | none => .dead
  | .ptr o p => match f o with | some i => .ptr i p | none => .dead
  | .pr a b => .pr (a.rename f) (b.rename f)
  | .fn g c => .fn g (c.rename f)
  | .tup a => .tup (a.rename f)
  | v => v
def AObj.rename (f : Nat → Option Nat) : AObj → AObj
  | .box v => .box (v.rename f)
  | o => o
def findIx (l : List Nat) (o : Nat) : Option Nat := l.idxOf? o
/-- The objects get new numbers; what cannot be reached is forgotten. -/
def ASt.renumber (st : ASt) (l : List Nat) : ASt :=
  { cur := st.cur.map (AV.rename (findIx l)), stk := st.stk.map (·.map (AV.rename (findIx l))), heap := l.map fun o => (ASt.obj st.heap o).rename (findIx l) }
def nodupB : List Nat → Bool
  | [] => true
  | x :: l => !l.contains x && nodupB l
def ASt.canon (st : ASt) : ASt :=
  let roots := st.cur.flatMap AV.refs ++ (st.stk.flatMap fun f => f.flatMap AV.refs)
  let l := reach st.heap (roots.length + 16 * st.heap.length + 16) roots []
  if nodupB l && roots.all (l.contains ·) && l.all (fun o => (ASt.obj st.heap o).refs.all (l.contains ·)) then st.renumber l else st

/-- A slot that holds nil becomes a row of the call's own that is empty. -/
def ownSlots (Γ : Gam) : List (Nat × TypeId) → ASt → ASt
  | [], st => st
  | (i, t) :: r, st => match st.cur.getD i .dead, Γ.elem t with
    | .nils, some (E, s) => ownSlots Γ r { st with cur := st.cur.set i (.row st.heap.length), heap := st.heap ++ [.row E s [] false] }
    | .emp, some (E, s) => ownSlots Γ r { st with cur := st.cur.set i (.row st.heap.length), heap := st.heap ++ [.row E s [] false] }
    | _, _ => ownSlots Γ r st
/-- A slot's value is seen as plain data; what lies behind it is frozen. -/
def datSlots (Γ : Gam) : List (Nat × TypeId) → ASt → ASt
  | [], st => st
  | (i, t) :: r, st => match Γ.sch t with
    | some s => match asPlain st.heap s (st.cur.getD i .dead) with
      | some (y, U) => datSlots Γ r { st with cur := st.cur.set i (.dat s y), heap := upd st.heap U }
      | none => datSlots Γ r st
    | none => datSlots Γ r st
def atHead (Γ : Gam) (ks : List Nat) (h : Hint) (st : ASt) : ASt :=
  (ownSlots Γ h.own (datSlots Γ h.dat { st with cur := keepOnly ks st.cur, stk := keepStk h.stk st.stk })).canon

/-- The slots that a region reads ahead of writing them: those that live on from region to region. -/
def tmpsOf (l : List Operand) : List Nat := l.filterMap fun | .tmp t => some t | _ => none
def regionReads : List Oper → List Nat → List Nat
  | [], _ => []
  | o :: r, w => (tmpsOf o.op.operands.toList).filter (!w.contains ·) ++ regionReads r (o.dst.toList ++ w)
def codeReads : Code → List Nat
  | .region _ ops _ => regionReads ops.toList []
  | .seq a b => codeReads a ++ codeReads b
  | .cond c a b => tmpsOf [c] ++ codeReads a ++ codeReads b
  | .block _ b => codeReads b
  | .loop b => codeReads b
  | .rangeFunc f _ a b => tmpsOf [f] ++ codeReads a ++ codeReads b
  | .scope b => codeReads b
  | _ => []
def resReads : ResultVar → Nat
  | .tmp t => t
  | .cell t _ => t
def keepOf (h : Hint) (fn : Func) (c : Code) : List Nat :=
  match h.keep with
  | some l => l
  | none => (codeReads c).eraseDups ++ fn.results.toList.map resReads

section
variable {R : Type}
/-- The place for the objects that a region makes. -/
def pad (orc : Orcs) (ops : List Oper) (H : List AObj) : List AObj := H ++ List.replicate (makesAll orc ops) .free
def exec (Γ : Gam) (orc : Orcs) (call : CallTo R) (head : ASt → ASt) (F : Nat) : Code → ASt → (AExit → ASt → Option R) → Option R
  | .skip, st, k => k .normal st
  | .region _ ops draw, st, k =>
    if draw then
      if edgesOk ops.toList then
        xopsD Γ orc ops.toList ops.toList st.heap.length st.cur (pad orc ops.toList st.heap) [] fun cur H fps =>
          if indepAll ops.toList (befores ops.toList []) fps then k .normal { st with cur := cur, heap := H } else none
      else none
    else xops Γ orc call ops.toList ops.toList st.heap.length { st with heap := pad orc ops.toList st.heap } (k .normal)
  | .seq a b, st, k => exec Γ orc call head F a st fun e st' => match e with
    | .normal => exec Γ orc call head F b st' k
    | e => k e st'
  | .cond c a b, st, k => match opnd st.cur c with
    | .dat .bool x => bif x then exec Γ orc call head F a st k else exec Γ orc call head F b st k
    | _ => none
  | .block id body, st, k => exec Γ orc call head F body st fun e st' => match e with
    | .exit i => if i = id then k .normal st' else k (.exit i) st'
    | e => k e st'
  | .loop body, st, k => loopN (fun st k => exec Γ orc call head F body st k) head F (head st) k
  | .exit id, st, k => k (.exit id) st
  | .ret, st, k => k .ret st
  | .label _, st, k => k .normal st
  | _, _, _ => none

def resAV (Γ : Gam) (H : List AObj) (cur : List AV) : ResultVar → Option AV
  | .tmp t => some (cur.getD t .dead)
  | .cell a t => match aLoad Γ t (cur.getD a .dead) H with
    | some (true, v, []) => some v
    | _ => none
def resAVs (Γ : Gam) (H : List AObj) (cur : List AV) : List ResultVar → Option (List AV)
  | [] => some []
  | r :: rs => match resAV Γ H cur r, resAVs Γ H cur rs with
    | some v, some vs => if v.isTup then none else some (v :: vs)
    | _, _ => none

/-- The run of a function's body. -/
def runBody (Γ : Gam) (orc : Orcs) (call : CallTo R) (h : Hint) (F : Nat) (fn : Func) (args : List AV) (st : ASt) (kk : List AV → ASt → Option R) : Option R :=
  match fn.body with
  | none => none
  | some c =>
    if args.length ≤ fn.ntmps then
      exec Γ orc call (atHead Γ (keepOf h fn c) h) F c { cur := args ++ List.replicate (fn.ntmps - args.length) .dead, stk := st.cur :: st.stk, heap := st.heap } fun e st' =>
        let fin : Option R := match st'.stk with
          | c0 :: stk => match resAVs Γ st'.heap st'.cur fn.results.toList with
            | some vs => kk vs { cur := c0, stk := stk, heap := st'.heap }
            | none => none
          | [] => none
        match e with
        | .exit _ => none
        | .normal => fin
        | .ret => fin
    else none

/-- What is given of a program: its types, its contracts, its hints. -/
structure Book where
  Γ : Gam
  orc : Orcs
  hint : FuncId → Hint := fun _ => {}

def acall (P : Program) (B : Book) (F : Nat) : Nat → CallTo R
  | 0 => fun _ _ _ _ => none
  | d + 1 => fun f args st kk => match P.funcs[f]? with
      | some fn => runBody B.Γ B.orc (acall P B F d) (B.hint f) F fn args st fun vs st' => kk (packed vs) st'
      | none => none
end

/-- The arguments of a run. -/
def ofArgs : List BV → List AObj → List AV × List AObj
  | [], H => ([], H)
  | .d s x :: bs, H => (.dat s x :: (ofArgs bs H).1, (ofArgs bs H).2)
  | .o E s xs :: bs, H => (.row H.length :: (ofArgs bs (H ++ [.row E s xs false])).1, (ofArgs bs (H ++ [.row E s xs false])).2)
  | .f g :: bs, H => (.fn g .un :: (ofArgs bs H).1, (ofArgs bs H).2)
/-- The run of a function between boundary values. -/
def runFn {R : Type} (P : Program) (B : Book) (F d : Nat) (f : FuncId) (args : List BV) (ms : List PM) (kend : List BV → Option R) : Option R :=
  match P.funcs[f]? with
  | some fn => runBody B.Γ B.orc (acall P B F d) (B.hint f) F fn (ofArgs args []).1 { cur := [], stk := [], heap := (ofArgs args []).2 } fun rs st =>
      match toArgs false st.heap ms rs with
      | some (bs, U) => if onceOnly U rs then kend bs else none
      | none => none
  | none => none

end Go.AI
