/- Templates of the machine's states: what is fixed, and what varies. -/
import Derived.Test.YtadpmbipdafjiaaLo
namespace Go.AI
open Go Go.RowKit

inductive TV where
  | var (s : Sch)
  | slx (s : Sch)
  | vptr (s : Sch)
  | nils
  | emp
  | row (o : Nat)
  | sl (o : Nat)
  | ptr (o : Nat) (p : List Nat)
  | pr (a b : TV)
  | un
  | fn (f : FuncId) (c : TV)
  | nilfn
  | dead
  deriving Inhabited

@[reducible] def TV.T : TV → Type
  | .var s => s.T
  | .slx s => List s.T
  | .vptr s => s.T
  | .sl _ => Nat × Nat
  | .pr a b => a.T × b.T
  | .fn _ c => c.T
  | _ => Unit
def TV.inst : (t : TV) → t.T → AV
  | .var s, x => .dat s x
  | .slx s, x => .slx s x
  | .vptr s, x => .vptr s x
  | .nils, _ => .nils
  | .emp, _ => .emp
  | .row o, _ => .row o
  | .sl o, x => .sl o x.1 x.2
  | .ptr o p, _ => .ptr o p
  | .pr a b, x => .pr (a.inst x.1) (b.inst x.2)
  | .un, _ => .un
  | .fn f c, x => .fn f (c.inst x)
  | .nilfn, _ => .nilfn
  | .dead, _ => .dead
def TV.take : (t : TV) → AV → Option t.T
  | .var s, .dat t x => if h : t = s then some (castT h x) else none
  | .slx s, .slx t x => if h : t = s then some (castT (s := .slc t) (t := .slc s) (by rw [h]) x) else none
  | .vptr s, .vptr t x => if h : t = s then some (castT h x) else none
  | .nils, .nils => some ()
  | .emp, .emp => some ()
  | .row o, .row p => if p = o then some () else none
  | .sl o, .sl p i n => if p = o then some (i, n) else none
  | .ptr o p, .ptr q r => if q = o ∧ r = p then some () else none
  | .pr a b, .pr u v => match a.take u, b.take v with
    | some x, some y => some (x, y)
    | _, _ => none
  | .un, .un => some ()
  | .fn f c, .fn g u => if g = f then c.take u else none
  | .nilfn, .nilfn => some ()
  | .dead, .dead => some ()
  | _, _ => none
theorem TV.take_eq : ∀ (t : TV) {v : AV} {x : t.T}, t.take v = some x → v = t.inst x
  | .var s, v, x, h => by
    cases v <;> simp only [TV.take] at h <;> try cases h
    split at h
    · rename_i hs; subst hs; cases h; rfl
    · cases h
  | .slx s, v, x, h => by
    cases v <;> simp only [TV.take] at h <;> try cases h
    split at h
    · rename_i hs; subst hs; cases h; rfl
    · cases h
  | .vptr s, v, x, h => by
    cases v <;> simp only [TV.take] at h <;> try cases h
    split at h
    · rename_i hs; subst hs; cases h; rfl
    · cases h
  | .nils, v, x, h => by cases v <;> simp only [TV.take] at h <;> first | rfl | cases h
  | .emp, v, x, h => by cases v <;> simp only [TV.take] at h <;> first | rfl | cases h
  | .row o, v, x, h => by
    cases v <;> simp only [TV.take] at h <;> try cases h
    split at h
    · rename_i hs; subst hs; rfl
    · cases h
  | .sl o, v, x, h => by
    cases v <;> simp only [TV.take] at h <;> try cases h
    split at h
    · rename_i hs; subst hs; cases h; rfl
    · cases h
  | .ptr o p, v, x, h => by
    cases v <;> simp only [TV.take] at h <;> try cases h
    split at h
    · rename_i hs; obtain ⟨rfl, rfl⟩ := hs; rfl
    · cases h
  | .pr a b, v, x, h => by
    cases v <;> simp only [TV.take] at h <;> try cases h
    split at h
    · rename_i h1 h2; cases h
      rw [TV.take_eq a h1, TV.take_eq b h2]; rfl
    · cases h
  | .un, v, x, h => by cases v <;> simp only [TV.take] at h <;> first | rfl | cases h
  | .fn f c, v, x, h => by
    cases v <;> simp only [TV.take] at h <;> try cases h
    split at h
    · rename_i hs; subst hs; rw [TV.take_eq c h]; rfl
    · cases h
  | .nilfn, v, x, h => by cases v <;> simp only [TV.take] at h <;> first | rfl | cases h
  | .dead, v, x, h => by cases v <;> simp only [TV.take] at h <;> first | rfl | cases h

/-- Slots: so many that are dead, then one, and so on; then so many that are dead. -/
abbrev TL := List (Nat × TV)
@[reducible] def TL.T : TL → Type
  | [] => Unit
  | x :: l => x.2.T × TL.T l
def TL.inst : (l : TL) → (n : Nat) → TL.T l → List AV
  | [], n, _ => List.replicate n .dead
  | (k, t) :: l, n, x => List.replicate k .dead ++ (t.inst x.1 :: TL.inst l n x.2)
def skipDead : Nat → List AV → Option (List AV)
  | 0, l => some l
  | n + 1, .dead :: l => skipDead n l
  | _, _ => none
theorem skipDead_eq : ∀ {n : Nat} {l r : List AV}, skipDead n l = some r → l = List.replicate n .dead ++ r
  | 0, l, r, h => by cases h; rfl
  | n + 1, .dead :: l, r, h => by simp only [skipDead] at h; rw [skipDead_eq h]; rfl
  | n + 1, [], r, h => by simp [skipDead] at h
def TL.take : (l : TL) → (n : Nat) → List AV → Option (TL.T l)
  | [], n, c => match skipDead n c with
    | some [] => some ()
    | _ => none
  | (k, t) :: l, n, c => match skipDead k c with
    | some (v :: r) => match t.take v, TL.take l n r with
      | some x, some y => some (x, y)
      | _, _ => none
    | _ => none
theorem TL.take_eq : ∀ (l : TL) {n : Nat} {c : List AV} {x : TL.T l}, TL.take l n c = some x → c = TL.inst l n x
  | [], n, c, x, h => by
    simp only [TL.take] at h
    split at h
    · rename_i hs; rw [skipDead_eq hs]; simp [TL.inst]
    · cases h
  | (k, t) :: l, n, c, x, h => by
    simp only [TL.take] at h
    split at h
    · rename_i v r hs
      split at h
      · rename_i a b h1 h2
        cases h
        rw [skipDead_eq hs, TV.take_eq t h1, TL.take_eq l h2]; rfl
      · cases h
    · cases h

structure TF where
  l : TL
  n : Nat
  deriving Inhabited
@[reducible] def TFs.T : List TF → Type
  | [] => Unit
  | f :: r => TL.T f.l × TFs.T r
def TFs.inst : (l : List TF) → TFs.T l → List (List AV)
  | [], _ => []
  | f :: r, x => TL.inst f.l f.n x.1 :: TFs.inst r x.2
def TFs.take : (l : List TF) → List (List AV) → Option (TFs.T l)
  | [], [] => some ()
  | f :: r, c :: cs => match TL.take f.l f.n c, TFs.take r cs with
    | some x, some y => some (x, y)
    | _, _ => none
  | _, _ => none
theorem TFs.take_eq : ∀ (l : List TF) {c : List (List AV)} {x : TFs.T l}, TFs.take l c = some x → c = TFs.inst l x
  | [], c, x, h => by cases c <;> simp only [TFs.take] at h <;> first | rfl | cases h
  | f :: r, c, x, h => by
    cases c with
    | nil => simp [TFs.take] at h
    | cons c cs =>
      simp only [TFs.take] at h
      split at h
      · rename_i a b h1 h2; cases h
        rw [TL.take_eq f.l h1, TFs.take_eq r h2]; rfl
      · cases h

inductive TO where
  | row (E : TypeId) (s : Sch) (fz : Bool)
  | box (t : TV)
  | gone
  | free
  deriving Inhabited
@[reducible] def TO.T : TO → Type
  | .row _ s _ => List s.T
  | .box t => t.T
  | _ => Unit
def TO.inst : (t : TO) → t.T → AObj
  | .row E s fz, x => .row E s x fz
  | .box t, x => .box (t.inst x)
  | .gone, _ => .gone
  | .free, _ => .free
def TO.take : (t : TO) → AObj → Option t.T
  | .row E s fz, .row E' t x fz' => if h : t = s then (if E' = E ∧ fz' = fz then some (castT (s := .slc t) (t := .slc s) (by rw [h]) x) else none) else none
  | .box t, .box v => t.take v
  | .gone, .gone => some ()
  | .free, .free => some ()
  | _, _ => none
theorem TO.take_eq : ∀ (t : TO) {v : AObj} {x : t.T}, t.take v = some x → v = t.inst x
  | .row E s fz, v, x, h => by
    cases v <;> simp only [TO.take] at h <;> try cases h
    split at h
    · rename_i hs; subst hs
      split at h
      · rename_i he; obtain ⟨rfl, rfl⟩ := he; cases h; rfl
      · cases h
    · cases h
  | .box t, v, x, h => by
    cases v <;> simp only [TO.take] at h <;> try cases h
    rw [TV.take_eq t h]; rfl
  | .gone, v, x, h => by cases v <;> simp only [TO.take] at h <;> first | rfl | cases h
  | .free, v, x, h => by cases v <;> simp only [TO.take] at h <;> first | rfl | cases h
@[reducible] def TOs.T : List TO → Type
  | [] => Unit
  | f :: r => f.T × TOs.T r
def TOs.inst : (l : List TO) → TOs.T l → List AObj
  | [], _ => []
  | f :: r, x => f.inst x.1 :: TOs.inst r x.2
def TOs.take : (l : List TO) → List AObj → Option (TOs.T l)
  | [], [] => some ()
  | f :: r, c :: cs => match f.take c, TOs.take r cs with
    | some x, some y => some (x, y)
    | _, _ => none
  | _, _ => none
theorem TOs.take_eq : ∀ (l : List TO) {c : List AObj} {x : TOs.T l}, TOs.take l c = some x → c = TOs.inst l x
  | [], c, x, h => by cases c <;> simp only [TOs.take] at h <;> first | rfl | cases h
  | f :: r, c, x, h => by
    cases c with
    | nil => simp [TOs.take] at h
    | cons c cs =>
      simp only [TOs.take] at h
      split at h
      · rename_i a b h1 h2; cases h
        rw [TO.take_eq f h1, TOs.take_eq r h2]; rfl
      · cases h

/-- A template of a state. -/
structure Tpl where
  cur : TF
  stk : List TF
  heap : List TO
  deriving Inhabited
@[reducible] def Tpl.T (t : Tpl) : Type := TL.T t.cur.l × TFs.T t.stk × TOs.T t.heap
def Tpl.inst (t : Tpl) (x : t.T) : ASt := { cur := TL.inst t.cur.l t.cur.n x.1, stk := TFs.inst t.stk x.2.1, heap := TOs.inst t.heap x.2.2 }
def Tpl.take (t : Tpl) (s : ASt) : Option t.T :=
  match TL.take t.cur.l t.cur.n s.cur, TFs.take t.stk s.stk, TOs.take t.heap s.heap with
  | some x, some y, some z => some (x, y, z)
  | _, _, _ => none
theorem Tpl.take_eq (t : Tpl) {s : ASt} {x : t.T} (h : t.take s = some x) : s = t.inst x := by
  unfold Tpl.take at h
  split at h
  · rename_i a b c h1 h2 h3
    cases h
    cases s
    simp only [Tpl.inst, ASt.mk.injEq]
    exact ⟨TL.take_eq _ h1, TFs.take_eq _ h2, TOs.take_eq _ h3⟩
  · cases h

/-- A loop that runs as a plain function says, from every state of a template. -/
def LO.of {R : Type} (t : Tpl) (f : t.T → (AExit → ASt → Option R) → Option R) : LO R := fun st k => match t.take st with
  | some x => f x k
  | none => none
theorem LO.of_some {R : Type} {t : Tpl} {f : t.T → (AExit → ASt → Option R) → Option R} {st : ASt} {k : AExit → ASt → Option R} {r : R} (h : LO.of t f st k = some r) : ∃ x, st = t.inst x ∧ f x k = some r := by
  unfold LO.of at h
  split at h
  · rename_i x hx; exact ⟨x, t.take_eq hx, h⟩
  · cases h

end Go.AI
