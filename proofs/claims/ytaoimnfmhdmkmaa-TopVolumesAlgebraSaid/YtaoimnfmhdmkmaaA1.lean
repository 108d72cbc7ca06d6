/- The data of the abstract reading of memory: shapes, plain values of a shape, and how cells of memory represent them. -/
import Derived.WalkKit
import Derived.ProofKit
namespace Go.AI
open Go Go.RowKit

/-- The shape of plain data. -/
inductive Sch where
  | int (k : IntKind)
  | bool
  | str
  | slc (s : Sch)
  | arr (n : Nat) (s : Sch)
  | pair (a b : Sch)
  | unit
  deriving DecidableEq, Inhabited

/-- The numbers of an integer kind. -/
@[reducible] def IT : IntKind → Type
  | .u8 => UInt8
  | .u32 => UInt32
  | _ => Int
def toI : (k : IntKind) → IT k → Int
  | .u8, x => (x.toNat : Int)
  | .u32, x => (x.toNat : Int)
  | .i8, x => x
  | .i16, x => x
  | .i32, x => x
  | .i64, x => x
  | .u16, x => x
  | .u64, x => x
def ofI : (k : IntKind) → Int → IT k
  | .u8, x => UInt8.ofNat x.toNat
  | .u32, x => UInt32.ofNat x.toNat
  | .i8, x => x
  | .i16, x => x
  | .i32, x => x
  | .i64, x => x
  | .u16, x => x
  | .u64, x => x

@[reducible] def Sch.T : Sch → Type
  | .int k => IT k
  | .bool => Bool
  | .str => List UInt8
  | .slc s => List s.T
  | .arr _ s => List s.T
  | .pair a b => a.T × b.T
  | .unit => Unit

def Sch.cells : Sch → Nat
  | .arr n s => n * s.cells
  | .pair a b => a.cells + b.cells
  | .unit => 0
  | _ => 1
def Sch.agg : Sch → Bool
  | .arr _ _ => true
  | .pair _ _ => true
  | .unit => true
  | _ => false
def Sch.dflt : (s : Sch) → s.T
  | .int k => ofI k 0
  | .bool => false
  | .str => []
  | .slc _ => []
  | .arr n s => List.replicate n s.dflt
  | .pair a b => (a.dflt, b.dflt)
  | .unit => ()

/-- Elements one behind the other. -/
def RepL {α : Type} (R : α → List Value → Prop) : List α → List Value → Prop
  | [], cs => cs = []
  | x :: xs, cs => ∃ c r, cs = c ++ r ∧ R x c ∧ RepL R xs r

/-- The cells from an address on. -/
def CellsAt (w : World) (ad : Addr) (L : List Value) : Prop := ∀ j u, L[j]? = some u → w.cell? (ad.add j) = some u

/-- Cells represent a plain value; memory is read in blocks that are there and that A does not hold. -/
def RepC (w : World) (A : Nat → Prop) : (s : Sch) → s.T → List Value → Prop
  | .int k, x, cs => cs = [.int k (toI k x)] ∧ (Lit.int k (toI k x)).wf = true
  | .bool, x, cs => cs = [.bool x]
  | .str, x, cs => cs = [.string ⟨x.toArray⟩] ∧ x.length ≤ maxLen
  | .slc s, xs, cs => ∃ a cap, cs = [.slice a xs.length cap] ∧ xs.length ≤ cap ∧ cap ≤ maxLen ∧
      (xs = [] ∨ ∃ ad L, a = some ad ∧ ad.block < w.heap.size ∧ ¬ A ad.block ∧ RepL (RepC w A s) xs L ∧ CellsAt w ad L)
  | .arr n s, xs, cs => xs.length = n ∧ RepL (RepC w A s) xs cs
  | .pair a b, x, cs => ∃ c r, cs = c ++ r ∧ RepC w A a x.1 c ∧ RepC w A b x.2 r
  | .unit, _, cs => cs = []

section RepL
variable {α : Type} {R : α → List Value → Prop} {n : Nat}
theorem RepL.length (hR : ∀ x c, R x c → c.length = n) : ∀ {xs : List α} {L : List Value}, RepL R xs L → L.length = xs.length * n
  | [], L, h => by simp [RepL] at h; simp [h]
  | x :: xs, L, h => by
    obtain ⟨c, r, rfl, hc, hr⟩ := h
    simp only [List.length_append, hR x c hc, RepL.length hR hr, List.length_cons, Nat.add_mul, Nat.one_mul]
    omega
theorem RepL.mono {R' : α → List Value → Prop} (hR : ∀ x c, R x c → R' x c) : ∀ {xs : List α} {L : List Value}, RepL R xs L → RepL R' xs L
  | [], _, h => h
  | _ :: _, _, ⟨c, r, e, hc, hr⟩ => ⟨c, r, e, hR _ _ hc, RepL.mono hR hr⟩
theorem RepL.append : ∀ {xs ys : List α} {L M : List Value}, RepL R xs L → RepL R ys M → RepL R (xs ++ ys) (L ++ M)
  | [], _, _, _, h, k => by simp [RepL] at h; simpa [h] using k
  | _ :: _, _, _, _, ⟨c, r, e, hc, hr⟩, k => ⟨c, r ++ _, by simp [e], hc, RepL.append hr k⟩
theorem RepL.split : ∀ {xs ys : List α} {L : List Value}, RepL R (xs ++ ys) L → ∃ M N, L = M ++ N ∧ RepL R xs M ∧ RepL R ys N
  | [], _, L, h => ⟨[], L, by simp, by simp [RepL], h⟩
  | _ :: _, _, _, ⟨c, r, e, hc, hr⟩ => by
    obtain ⟨M, N, rfl, hM, hN⟩ := RepL.split hr
    exact ⟨c ++ M, N, by simp [e], ⟨c, M, rfl, hc, hM⟩, hN⟩
theorem RepL.take (hR : ∀ x c, R x c → c.length = n) {xs : List α} {L : List Value} (h : RepL R xs L) (k : Nat) : RepL R (xs.take k) (L.take (k * n)) := by
  rw [← List.take_append_drop k xs] at h
  obtain ⟨M, N, rfl, hM, hN⟩ := RepL.split h
  have hl := RepL.length hR hM
  by_cases hk : k ≤ xs.length
  · have : M.length = k * n := by rw [hl, List.length_take, Nat.min_eq_left hk]
    rw [← this, List.take_left]; exact hM
  · have hN' : xs.drop k = [] := List.drop_eq_nil_of_le (by omega)
    rw [hN'] at hN
    simp [RepL] at hN
    subst hN
    have : M.length ≤ k * n := by rw [hl, List.length_take]; exact Nat.mul_le_mul_right _ (by omega)
    rw [List.append_nil, List.take_of_length_le this]; exact hM
theorem RepL.drop (hR : ∀ x c, R x c → c.length = n) {xs : List α} {L : List Value} (h : RepL R xs L) (k : Nat) : RepL R (xs.drop k) (L.drop (k * n)) := by
  rw [← List.take_append_drop k xs] at h
  obtain ⟨M, N, rfl, hM, hN⟩ := RepL.split h
  have hl := RepL.length hR hM
  by_cases hk : k ≤ xs.length
  · have : M.length = k * n := by rw [hl, List.length_take, Nat.min_eq_left hk]
    rw [← this, List.drop_left]; exact hN
  · have hN' : xs.drop k = [] := List.drop_eq_nil_of_le (by omega)
    rw [hN'] at hN ⊢
    simp [RepL] at hN
    subst hN
    have : M.length ≤ k * n := by rw [hl, List.length_take]; exact Nat.mul_le_mul_right _ (by omega)
    rw [List.append_nil, List.drop_eq_nil_of_le this]; simp [RepL]
theorem RepL.one {x : α} {c : List Value} (h : R x c) : RepL R [x] c := ⟨c, [], by simp, h, rfl⟩
theorem RepL.of_one {x : α} {c : List Value} (h : RepL R [x] c) : R x c := by
  obtain ⟨c', r, rfl, hc, hr⟩ := h
  simp [RepL] at hr; subst hr; simpa using hc
/-- The element at an index. -/
theorem RepL.at_ (hR : ∀ x c, R x c → c.length = n) {xs : List α} {L : List Value} (h : RepL R xs L) {i : Nat} {x : α} (hi : xs[i]? = some x) :
    R x ((L.drop (i * n)).take n) := by
  have hlt : i < xs.length := by
    rcases Nat.lt_or_ge i xs.length with h' | h'
    · exact h'
    · rw [List.getElem?_eq_none h'] at hi; cases hi
  have h1 := RepL.take hR (RepL.drop hR h i) 1
  have e : (xs.drop i).take 1 = [x] := by
    rw [List.drop_eq_getElem_cons hlt]
    rw [List.getElem?_eq_getElem hlt] at hi
    injection hi with hi
    simp [hi]
  rw [e, Nat.one_mul] at h1
  exact RepL.of_one h1
/-- An element is put in place. -/
theorem RepL.set (hR : ∀ x c, R x c → c.length = n) {xs : List α} {L : List Value} (h : RepL R xs L) {i : Nat} (hi : i < xs.length) {y : α} {c : List Value} (hy : R y c) :
    RepL R (xs.set i y) (L.take (i * n) ++ c ++ L.drop (i * n + n)) := by
  have h1 := RepL.take hR h i
  have h2 := RepL.drop hR h (i + 1)
  rw [List.set_eq_take_append_cons_drop, if_pos hi, List.append_assoc]
  refine RepL.append h1 ⟨c, _, rfl, hy, ?_⟩
  rwa [Nat.add_mul, Nat.one_mul] at h2
theorem RepL.cells {P : Value → Prop} (hR : ∀ x c, R x c → ∀ u ∈ c, P u) : ∀ {xs : List α} {L : List Value}, RepL R xs L → ∀ u ∈ L, P u
  | [], L, h => by simp [RepL] at h; simp [h]
  | x :: xs, L, h => by
    obtain ⟨c, r, rfl, hc, hr⟩ := h
    intro u hu
    rcases List.mem_append.1 hu with hu | hu
    · exact hR x c hc u hu
    · exact RepL.cells hR hr u hu
end RepL

theorem RepC.length {w : World} {A : Nat → Prop} : ∀ (s : Sch) {x : s.T} {c : List Value}, RepC w A s x c → c.length = s.cells
  | .int k, _, _, h => by obtain ⟨rfl, _⟩ := h; rfl
  | .bool, _, _, h => by simp [RepC] at h; simp [h, Sch.cells]
  | .str, _, _, h => by obtain ⟨rfl, _⟩ := h; rfl
  | .slc s, _, _, h => by obtain ⟨a, cap, rfl, _⟩ := h; rfl
  | .arr n s, xs, c, h => by
    obtain ⟨hl, hr⟩ := h
    rw [RepL.length (fun x c => RepC.length s) hr, hl]; rfl
  | .pair a b, x, _, h => by
    obtain ⟨c, r, rfl, h1, h2⟩ := h
    rw [List.length_append, RepC.length a h1, RepC.length b h2]; rfl
  | .unit, _, _, h => by simp [RepC] at h; simp [h, Sch.cells]

theorem RepC.oneCell {w : World} {A : Nat → Prop} : ∀ (s : Sch) {x : s.T} {c : List Value}, RepC w A s x c → ∀ u ∈ c, u.oneCell' = true
  | .int k, _, _, h => by obtain ⟨rfl, _⟩ := h; simp [Value.oneCell']
  | .bool, _, _, h => by simp [RepC] at h; simp [h, Value.oneCell']
  | .str, _, _, h => by obtain ⟨rfl, _⟩ := h; simp [Value.oneCell']
  | .slc s, _, _, h => by obtain ⟨a, cap, rfl, _⟩ := h; simp [Value.oneCell']
  | .arr n s, xs, c, h => RepL.cells (fun x c hc => RepC.oneCell s hc) h.2
  | .pair a b, x, _, h => by
    obtain ⟨c, r, rfl, h1, h2⟩ := h
    intro u hu
    rcases List.mem_append.1 hu with hu | hu
    · exact RepC.oneCell a h1 u hu
    · exact RepC.oneCell b h2 u hu
  | .unit, _, _, h => by simp [RepC] at h; simp [h]

/-- What A does not hold, and is there, is as it was. -/
structure Keeps (A : Nat → Prop) (w w' : World) : Prop where
  size : w.heap.size ≤ w'.heap.size
  block : ∀ b, b < w.heap.size → ¬ A b → w'.heap[b]? = w.heap[b]?

theorem Addr.add_block (a : Addr) (j : Nat) : (a.add j).block = a.block := by unfold Addr.add; split <;> rfl

theorem CellsAt.keeps {A : Nat → Prop} {w w' : World} (hk : Keeps A w w') {ad : Addr} {L : List Value} (hb : ad.block < w.heap.size) (hA : ¬ A ad.block) (h : CellsAt w ad L) : CellsAt w' ad L := by
  intro j u hu
  rw [World.cell?_of_block (w := w) (by rw [Addr.add_block]; exact hk.block _ hb hA)]
  exact h j u hu

theorem RepC.keeps {A A' : Nat → Prop} {w w' : World} (hk : Keeps A w w') (hA : ∀ b, b < w.heap.size → A' b → A b) :
    ∀ (s : Sch) {x : s.T} {c : List Value}, RepC w A s x c → RepC w' A' s x c
  | .int k, _, _, h => h
  | .bool, _, _, h => h
  | .str, _, _, h => h
  | .slc s, xs, _, h => by
    obtain ⟨a, cap, rfl, h1, h2, h3⟩ := h
    refine ⟨a, cap, rfl, h1, h2, h3.imp id ?_⟩
    rintro ⟨ad, L, rfl, hb, hn, hr, hc⟩
    exact ⟨ad, L, rfl, Nat.lt_of_lt_of_le hb hk.size, fun h => hn (hA _ hb h), RepL.mono (fun x c => RepC.keeps hk hA s) hr, hc.keeps hk hb hn⟩
  | .arr n s, xs, c, h => ⟨h.1, RepL.mono (fun x c => RepC.keeps hk hA s) h.2⟩
  | .pair a b, x, _, h => by
    obtain ⟨c, r, rfl, h1, h2⟩ := h
    exact ⟨c, r, rfl, RepC.keeps hk hA a h1, RepC.keeps hk hA b h2⟩
  | .unit, _, _, h => h

end Go.AI

/- The abstract machine: it runs the code of the model over plain values, with no addresses, no capacities, no drawn orders. -/
noncomputable section
namespace Go.AI
open Go Go.RowKit

/-- Elements of a list, reached and replaced in few steps of the kernel. -/
def nthR {α : Type} (d : α) (l : List α) : Nat → α := List.rec (fun _ => d) (fun a _ ih i => Nat.rec a (fun j _ => ih j) i) l
def setR {α : Type} (v : α) (l : List α) : Nat → List α := List.rec (fun _ => []) (fun a t ih i => Nat.rec (v :: t) (fun j _ => a :: ih j) i) l
@[simp] theorem nthR_eq {α : Type} (d : α) : ∀ (l : List α) (i : Nat), nthR d l i = l.getD i d
  | [], _ => rfl
  | _ :: _, 0 => rfl
  | _ :: l, i + 1 => (nthR_eq d l i).trans (by simp [List.getD])
@[simp] theorem setR_eq {α : Type} (v : α) : ∀ (l : List α) (i : Nat), setR v l i = l.set i v
  | [], _ => rfl
  | _ :: _, 0 => rfl
  | a :: l, i + 1 => congrArg (a :: ·) (setR_eq v l i)

def snocR {α : Type} (l : List α) (x : α) : List α := List.rec [x] (fun a _ ih => a :: ih) l
theorem snocR_eq {α : Type} (x : α) : ∀ l : List α, snocR l x = l ++ [x]
  | [] => rfl
  | a :: l => congrArg (a :: ·) (snocR_eq x l)

/-- What a handle is of: the yield function of a loop's record, a map. -/
inductive HK where
  | yield
  | map
  /-- a part of a vector, the place of one of its elements -/
  | vec (off len : Nat)
  | vslot (i : Nat)
  /-- all of a slice of own slices, the place of one, one of them, the place of an element -/
  | nst
  | nslot (i : Nat)
  | nrow (i : Nat)
  | nelem (i k : Nat)
  deriving DecidableEq, Inhabited
def HK.mk : HK → Nat → Value
  | .yield, g => .func (.yield g) #[] #[]
  | _, g => .map (some g)
/-- How a piece of code is left. -/
inductive AExit where
  | normal
  | exit (id : Nat)
  | ret
  | panic (t : TypeId)
  deriving DecidableEq, Inhabited
/-- How far a range over a function is. -/
inductive LSt where
  | ready
  | busy
  | done (e : AExit)
  deriving DecidableEq, Inhabited

/-- What a slot holds, abstractly. -/
inductive AV where
  /-- plain data, whose memory nobody writes -/
  | dat (s : Sch) (x : s.T)
  /-- a slice, as dat, whose capacity is its length -/
  | slx (s : Sch) (xs : List s.T)
  /-- the nil slice -/
  | nils
  /-- a slice of capacity 0 -/
  | emp
  /-- all of a row of the call's own -/
  | row (o : Nat)
  /-- a part of an object's elements -/
  | sl (o off len : Nat)
  /-- a pointer to memory that nobody writes -/
  | vptr (s : Sch) (x : s.T)
  /-- a pointer into an object -/
  | ptr (o : Nat) (p : List Nat)
  | pr (a b : AV)
  | un
  | fn (f : FuncId) (caps : AV)
  | nilfn
  /-- a handle of an object -/
  | hnd (k : HK) (o : Nat)
  /-- a function with its first arguments -/
  | mv (f : FuncId) (fst : AV)
  /-- an interface that holds an empty struct -/
  | ifc (t : TypeId)
  /-- the nil pointer, the nil map -/
  | nilp
  | nilm
  /-- an array of functions, and one of them -/
  | fns (fs : List (Option FuncId))
  | fsel (fs : List (Option FuncId)) (i : Nat)
  /-- a slice of which only is known whether it is nil, and its length -/
  | pk (b : Bool) (n : Nat)
  | tup (a : AV)
  | dead
  deriving Inhabited

/-- Objects that are no rows and no variables: the record of a range over a function, what walks over a string, a map. -/
inductive XObj where
  | lp (f : FuncId) (key : Nat) (fr : List AV) (st : LSt)
  | sit (s : List UInt8) (pos : Nat)
  | mp (k v : TypeId) (ks vs : Sch) (m : List (ks.T × vs.T))
  /-- a map whose values are slices of its own, of which one may be lent -/
  | mps (k v E : TypeId) (ks s : Sch) (m : List (ks.T × List s.T)) (lent : Option ks.T)
  /-- what walks over a map of plain data, that nobody else looks at: which entries were met -/
  | mit (k v : TypeId) (ks vs : Sch) (m : List (ks.T × vs.T)) (done : List Nat)
  /-- the elements of a slice that are no plain data -/
  | vec (E : TypeId) (vs : List AV)
  /-- a slice whose elements are slices of its own -/
  | nst (E Ei : TypeId) (s : Sch) (xss : List (List s.T))
  deriving Inhabited
def XObj.isFam : XObj → Bool
  | .mps _ _ _ _ _ _ _ => true
  | .nst _ _ _ _ => true
  | .mit _ _ _ _ _ _ => true
  | _ => false
/-- May the blocks of an object become more? -/
def XObj.grows : XObj → Bool
  | .mps _ _ _ _ _ _ _ => true
  | _ => false
/-- An object of the call's own. -/
inductive AObj where
  | row (E : TypeId) (s : Sch) (xs : List s.T) (fz : Bool)
  | box (v : AV)
  | oth (x : XObj)
  | gone
  | free
  deriving Inhabited

def AObj.isFam : AObj → Bool
  | .oth x => x.isFam
  | _ => false
def AObj.grows : AObj → Bool
  | .oth x => x.grows
  | _ => false
def AObj.live : AObj → Bool
  | .row _ _ _ _ => true
  | .box _ => true
  | .oth _ => true
  | _ => false

structure ASt where
  cur : List AV
  stk : List (List AV)
  heap : List AObj
  deriving Inhabited

/-- What is known of a type of the program. -/
inductive TK where
  | other
  | func
  | slice (e : TypeId)
  | array (n : Nat) (e : TypeId)
  | struct (fs : List (Nat × TypeId))
  | ptr (e : TypeId)
  | map (k v : TypeId)
  deriving DecidableEq, Inhabited
structure TI where
  kind : TK
  cells : Nat
  sch : Option Sch
  eq : Bool
  deriving DecidableEq, Inhabited
def TI.agg (t : TI) : Bool :=
  match t.kind with
  | .array _ _ => true
  | .struct _ => true
  | _ => false

def TI.isPtr (t : TI) : Bool :=
  match t.kind with
  | .ptr _ => true
  | _ => false

def castT {s t : Sch} (h : s = t) (x : s.T) : t.T := h ▸ x

def AV.agg : AV → Bool
  | .dat s _ => s.agg
  | .pr _ _ => true
  | .un => true
  | .fns _ => true
  | _ => false
def AV.cells : AV → Nat
  | .dat s _ => s.cells
  | .pr a b => a.cells + b.cells
  | .un => 0
  | .fns fs => fs.length
  | _ => 1
def AV.isTup : AV → Bool
  | .tup _ => true
  | _ => false
/-- Only these stand in memory. -/
def AV.stands : AV → Bool
  | .tup _ => false
  | .dead => false
  | .pr a b => a.stands && b.stands
  | _ => true

/-- Pairs of plain data are plain data. -/
def AV.mkPr : AV → AV → AV
  | .dat s x, .dat t y => .dat (.pair s t) (x, y)
  | a, b => .pr a b

/-- A part: a field of a struct, an element of an array. -/
def AV.comp : AV → Nat → AV
  | .pr a _, 0 => a
  | .pr _ b, k + 1 => b.comp k
  | .dat (.pair a _) x, 0 => .dat a x.1
  | .dat (.pair _ b) x, k + 1 => (AV.dat b x.2).comp k
  | _, _ => .dead
def AV.setComp : AV → Nat → AV → Option AV
  | .pr _ b, 0, u => some (.mkPr u b)
  | .pr a b, k + 1, u => (b.setComp k u).map (AV.mkPr a)
  | .dat (.pair _ b) x, 0, u => some (.mkPr u (.dat b x.2))
  | .dat (.pair a b) x, k + 1, u => ((AV.dat b x.2).setComp k u).map (AV.mkPr (.dat a x.1))
  | _, _, _ => none
def AV.sub (v : AV) (i : Nat) : AV :=
  match v with
  | .dat (.arr _ s) xs => .dat s (xs.getD i s.dflt)
  | .fns fs => .fsel fs i
  | v => v.comp i
def AV.setSub (v : AV) (i : Nat) (u : AV) : Option AV :=
  match v with
  | .dat (.arr n s) xs => match u with
    | .dat t y => if h : t = s then some (.dat (.arr n s) (xs.set i (castT h y))) else none
    | _ => none
  | .fns _ => none
  | v => v.setComp i u
def AV.get : AV → List Nat → AV
  | v, [] => v
  | v, i :: p => (v.sub i).get p

/-- The layout in cells. -/
inductive Lay where
  | one
  | unit
  | pair (a b : Lay)
  | arr (n : Nat) (a : Lay)
  deriving DecidableEq, Inhabited
def Sch.lay : Sch → Lay
  | .arr n s => .arr n s.lay
  | .pair a b => .pair a.lay b.lay
  | .unit => .unit
  | _ => .one
def AV.lay : AV → Lay
  | .dat s _ => s.lay
  | .pr a b => .pair a.lay b.lay
  | .un => .unit
  | .fns fs => .arr fs.length .one
  | _ => .one
def Lay.cells : Lay → Nat
  | .one => 1
  | .unit => 0
  | .pair a b => a.cells + b.cells
  | .arr n a => n * a.cells
def Lay.agg : Lay → Bool
  | .one => false
  | _ => true
/-- The k-th part: its cell and its layout. -/
def Lay.comp : Lay → Nat → Option (Nat × Lay)
  | .pair a _, 0 => some (0, a)
  | .pair a b, k + 1 => (b.comp k).map fun x => (a.cells + x.1, x.2)
  | _, _ => none
def Lay.sub (l : Lay) (i : Nat) : Option (Nat × Lay) :=
  match l with
  | .arr n a => if i < n then some (i * a.cells, a) else none
  | l => l.comp i
def Lay.at_ : Lay → List Nat → Option (Nat × Lay)
  | l, [] => some (0, l)
  | l, i :: p => (l.sub i).bind fun x => (x.2.at_ p).map fun y => (x.1 + y.1, y.2)

/-- How many parts a chain has. -/
def Lay.chain : Lay → Nat
  | .pair _ b => b.chain + 1
  | _ => 0
def XObj.lay : XObj → Lay
  | .vec _ vs => .arr vs.length .one
  | .nst _ _ _ xss => xss.foldr (fun xs l => .pair (.arr xs.length .one) l) .unit
  | _ => .one

def AV.put : AV → List Nat → AV → Option AV
  | v, [], u => if u.stands && u.lay == v.lay then some u else none
  | v, i :: p, u => ((v.sub i).put p u).bind fun z => v.setSub i z

/-- The elements of an object. -/
structure Elems where
  s : Sch
  xs : List s.T
def AObj.elems : AObj → Option Elems
  | .row _ s xs _ => some ⟨s, xs⟩
  | .box (.dat (.arr _ s) xs) => some ⟨s, xs⟩
  | _ => none
/-- An object's contents as one value. -/
def AObj.av : AObj → AV
  | .row _ s xs _ => .dat (.arr xs.length s) xs
  | .box v => v
  | _ => .dead
def boxSch : AV → Option (Nat × Sch)
  | .dat (.arr n s) _ => some (n, s)
  | _ => none
def AObj.back (ob : AObj) (z : AV) : Option AObj :=
  match ob with
  | .row E s _ false => match z with
    | .dat (.arr _ t) ys => if h : t = s then some (.row E s (castT (s := .slc t) (t := .slc s) (by rw [h]) ys) false) else none
    | _ => none
  | .box v => if boxSch z = boxSch v then some (.box z) else none
  | _ => none
def AObj.get (ob : AObj) (p : List Nat) : AV := ob.av.get p
def AObj.put (ob : AObj) (p : List Nat) (u : AV) : Option AObj := (ob.av.put p u).bind ob.back

def ASt.obj (H : List AObj) (o : Nat) : AObj := nthR .free H o
theorem obj_getD (H : List AObj) (o : Nat) : ASt.obj H o = H.getD o .free := nthR_eq _ _ _

/-- Changes of objects. -/
abbrev Upd := List (Nat × AObj)
def upd (H : List AObj) (U : Upd) : List AObj := U.foldl (fun H x => H.set x.1 x.2) H

/-- The elements of a slice. -/
def elemsOf (H : List AObj) : AV → Option Elems
  | .dat (.slc s) xs => some ⟨s, xs⟩
  | .slx s xs => some ⟨s, xs⟩
  | .row o => (ASt.obj H o).elems
  | .sl o off len => match (ASt.obj H o).elems with
    | some e => some ⟨e.s, (e.xs.drop off).take len⟩
    | none => none
  | _ => none
/-- The elements of a slice whose shape is known. -/
def elemsAs (H : List AObj) (s : Sch) (v : AV) : Option (List s.T) :=
  match v with
  | .nils => some []
  | .emp => some []
  | v => match elemsOf H v with
    | some e => if h : e.s = s then some (castT (s := .slc e.s) (t := .slc s) (by rw [h]) e.xs) else none
    | none => none
/-- The elements of what is appended or copied: a slice's, or a string's bytes. -/
def srcElems (H : List AObj) (s : Sch) (v : AV) : Option (List s.T) :=
  match v with
  | .dat .str b => elemsAs H s (.dat (.slc (.int .u8)) b)
  | v => elemsAs H s v
/-- A length. -/
def lenOf (H : List AObj) : AV → Option Nat
  | .dat .str x => some x.length
  | .nils => some 0
  | .emp => some 0
  | .sl o _ len => (ASt.obj H o).elems.map fun _ => len
  | .pk _ n => some n
  | v => (elemsOf H v).map fun e => e.xs.length

/-- The objects that a value names. -/
def AV.refs : AV → List Nat
  | .row o => [o]
  | .sl o _ _ => [o]
  | .ptr o _ => [o]
  | .pr a b => a.refs ++ b.refs
  | .fn _ c => c.refs
  | .hnd _ o => [o]
  | .mv _ c => c.refs
  | .tup a => a.refs
  | _ => []

/-- May an object's elements be read as plain data? b: for the time of a call; else: for good, once it is frozen. -/
def AObj.plain (b : Bool) : AObj → Bool
  | .row _ _ _ _ => true
  | .box (.dat (.arr _ _) _) => true
  | .box _ => b
  | _ => false
/-- A value as plain data of a shape. -/
def toDat (b : Bool) (H : List AObj) : (s : Sch) → AV → Option s.T
  | s, .dat t x => if h : t = s then some (castT h x) else none
  | .slc s, .slx t xs => if h : t = s then some (castT (s := .slc t) (t := .slc s) (by rw [h]) xs) else none
  | .slc _, .nils => some []
  | .slc _, .emp => some []
  | .slc s, .row o => if (ASt.obj H o).plain b then elemsAs H s (.row o) else none
  | .slc s, .sl o i n => if (ASt.obj H o).plain b then elemsAs H s (.sl o i n) else none
  | .pair a c, .pr u v => match toDat b H a u, toDat b H c v with
    | some x, some y => some (x, y)
    | _, _ => none
  | .unit, .un => some ()
  | _, _ => none
def freezeObj : AObj → AObj
  | .row E s xs _ => .row E s xs true
  | .box (.dat (.arr _ s) xs) => .row 0 s xs true
  | o => o
/-- The objects behind a value, frozen. -/
def freezes (H : List AObj) (v : AV) : Upd := v.refs.map fun o => (o, freezeObj (ASt.obj H o))

/-- A new object, in a place that is free. -/
def newObj? (H : List AObj) (n : Nat) (ob : AObj) : Option Upd :=
  if n < H.length then match ASt.obj H n with
    | .free => some [(n, ob)]
    | _ => none
  else none

end Go.AI

/- The abstract machine's operations: each gives a condition, a value, and the objects behind it. -/
noncomputable section
namespace Go.AI
open Go Go.RowKit

abbrev Gam := List (Option TI)
def Gam.at_ (Γ : Gam) (t : TypeId) : Option TI := (Γ[t]?).join
def Gam.sch (Γ : Gam) (t : TypeId) : Option Sch := (Γ.at_ t).bind (·.sch)
/-- The element's type and shape of a slice type. -/
def Gam.elem (Γ : Gam) (t : TypeId) : Option (TypeId × Sch) :=
  match Γ.at_ t with
  | some { kind := .slice e, sch := some _, .. } => (Γ.sch e).map fun s => (e, s)
  | _ => none
/-- The same of a slice type that is not taken as plain data. -/
def Gam.elemQ (Γ : Gam) (t : TypeId) : Option (TypeId × Sch) :=
  match Γ.at_ t with
  | some { kind := .slice e, sch := none, .. } => (Γ.sch e).map fun s => (e, s)
  | _ => none
/-- The elements of such a type, of one cell each. -/
def Gam.nest (Γ : Gam) (t : TypeId) : Option TypeId :=
  match Γ.at_ t with
  | some { kind := .slice e, sch := none, .. } => match Γ.at_ e with
    | some ti => if ti.agg = false ∧ (ti.sch.isSome || ti.isPtr) = true then some e else none
    | none => none
  | _ => none
/-- A slice of slices. -/
def Gam.nstOf (Γ : Gam) (t : TypeId) : Option (TypeId × TypeId × Sch) :=
  match Γ.nest t with
  | some E => match Γ.elem E with
    | some (Ei, s) => if s.cells = 1 ∧ s.agg = false then some (E, Ei, s) else none
    | none => none
  | none => none

/-- The greatest length of a slice that the machine makes. -/
def big : Nat := 2147483648

abbrev Ans := Option (Bool × AV × Upd)

def constAV : Value → AV
  | .int k n => if (Lit.int k n).wf then .dat (.int k) (ofI k n) else .dead
  | .bool b => .dat .bool b
  | .string s => if s.size ≤ maxLen then .dat .str s.data.toList else .dead
  | .slice none 0 0 => .nils
  | .nilFunc => .nilfn
  | .pointer none => .nilp
  | .map none => .nilm
  | _ => .dead
def opnd (cur : List AV) : Operand → AV
  | .tmp t => nthR .dead cur t
  | .const v => constAV v
  | .global _ => .dead
  | .func f => .fn f .un

theorem opnd_tmp (cur : List AV) (t : Tmp) : opnd cur (.tmp t) = cur.getD t .dead := nthR_eq _ _ _
def wAdd (k : IntKind) (a b : IT k) : IT k := ofI k (k.wrap (toI k a + toI k b))
def wSub (k : IntKind) (a b : IT k) : IT k := ofI k (k.wrap (toI k a - toI k b))
def wMul (k : IntKind) (a b : IT k) : IT k := ofI k (k.wrap (toI k a * toI k b))
def wQuo (k : IntKind) (a b : IT k) : IT k := ofI k (k.wrap ((toI k a).tdiv (toI k b)))
def wRem (k : IntKind) (a b : IT k) : IT k := ofI k ((toI k a).tmod (toI k b))
def wAnd (k : IntKind) (a b : IT k) : IT k := ofI k (k.wrap (BitVec.ofInt k.bits (toI k a) &&& BitVec.ofInt k.bits (toI k b)).toNat)
def wOr (k : IntKind) (a b : IT k) : IT k := ofI k (k.wrap (BitVec.ofInt k.bits (toI k a) ||| BitVec.ofInt k.bits (toI k b)).toNat)
def wXor (k : IntKind) (a b : IT k) : IT k := ofI k (k.wrap (BitVec.ofInt k.bits (toI k a) ^^^ BitVec.ofInt k.bits (toI k b)).toNat)
def wAndNot (k : IntKind) (a b : IT k) : IT k := ofI k (k.wrap (BitVec.ofInt k.bits (toI k a) &&& ~~~BitVec.ofInt k.bits (toI k b)).toNat)
def wNot (k : IntKind) (a : IT k) : IT k := ofI k (k.wrap (BitVec.ofInt k.bits (if k.signed then -1 else k.max) ^^^ BitVec.ofInt k.bits (toI k a)).toNat)
def wNeg (k : IntKind) (a : IT k) : IT k := ofI k (k.wrap (0 - toI k a))
def wShl (k : IntKind) (a : IT k) (n : Int) : IT k := ofI k (k.wrap (toI k a * 2 ^ (min n.toNat k.bits)))
def wShr (k : IntKind) (a : IT k) (n : Int) : IT k := ofI k ((toI k a).fdiv (2 ^ (min n.toNat k.bits)))
def wConv (j k : IntKind) (a : IT j) : IT k := ofI k (k.wrap (toI j a))
def wMin (k : IntKind) (a b : IT k) : IT k := if toI k b < toI k a then b else a
def wMax (k : IntKind) (a b : IT k) : IT k := if toI k b > toI k a then b else a

def nonNeg (k : IntKind) (n : Int) : Bool :=
  match k with
  | .u8 => true
  | .u16 => true
  | .u32 => true
  | .u64 => true
  | _ => decide (0 ≤ n)

/-- '==' on plain data. -/
def Sch.beq : (s : Sch) → s.T → s.T → Bool
  | .int k, a, b => toI k a == toI k b
  | .bool, a, b => a == b
  | .str, a, b => a == b
  | .arr _ s, a, b => a.length == b.length && (a.zip b).all fun x => s.beq x.1 x.2
  | .pair s t, a, b => s.beq a.1 b.1 && t.beq a.2 b.2
  | .unit, _, _ => true
  | .slc _, _, _ => false
def Sch.comparable : Sch → Bool
  | .slc _ => false
  | .arr _ s => s.comparable
  | .pair a b => a.comparable && b.comparable
  | _ => true

def intBin (op : BinOp) (k : IntKind) (a b : IT k) : Option (Bool × AV) :=
  match op with
  | .add => some (true, .dat (.int k) (wAdd k a b))
  | .sub => some (true, .dat (.int k) (wSub k a b))
  | .mul => some (true, .dat (.int k) (wMul k a b))
  | .quo => some (toI k b != 0, .dat (.int k) (wQuo k a b))
  | .rem => some (toI k b != 0, .dat (.int k) (wRem k a b))
  | .and => some (true, .dat (.int k) (wAnd k a b))
  | .or => some (true, .dat (.int k) (wOr k a b))
  | .xor => some (true, .dat (.int k) (wXor k a b))
  | .andNot => some (true, .dat (.int k) (wAndNot k a b))
  | .eql => some (true, .dat .bool (toI k a == toI k b))
  | .neq => some (true, .dat .bool (toI k a != toI k b))
  | .lss => some (true, .dat .bool (decide (toI k a < toI k b)))
  | .leq => some (true, .dat .bool (decide (toI k a ≤ toI k b)))
  | .gtr => some (true, .dat .bool (decide (toI k a > toI k b)))
  | .geq => some (true, .dat .bool (decide (toI k a ≥ toI k b)))
  | _ => none
def strBin (op : BinOp) (a b : List UInt8) : Option (Bool × AV) :=
  match op with
  | .eql => some (true, .dat .bool (a == b))
  | .neq => some (true, .dat .bool (!(a == b)))
  | _ => none
def beqL {α : Type} (f : α → α → Bool) : List α → List α → Bool
  | [], [] => true
  | a :: l, b :: m => f a b && beqL f l m
  | _, _ => false
/-- Values of plain data, compared. -/
def beqT : (s : Sch) → s.T → s.T → Bool
  | .int k, a, b => toI k a == toI k b
  | .bool, a, b => a == b
  | .str, a, b => a == b
  | .slc _, _, _ => false
  | .arr _ s, a, b => beqL (beqT s) a b
  | .pair s t, a, b => beqT s a.1 b.1 && beqT t a.2 b.2
  | .unit, _, _ => true
def mayEq (Γ : Gam) (t : TypeId) (s : Sch) : Bool := match Γ.at_ t with
  | some ti => ti.eq && ti.sch == some s
  | none => false
def aBin (Γ : Gam) (t : TypeId) (op : BinOp) (x y : AV) : Option (Bool × AV) :=
  match x, y with
  | .dat (.int k) a, .dat (.int j) b =>
    match op with
    | .shl => some (nonNeg j (toI j b), .dat (.int k) (wShl k a (toI j b)))
    | .shr => some (nonNeg j (toI j b), .dat (.int k) (wShr k a (toI j b)))
    | op => if h : j = k then intBin op k a (castT (s := .int j) (t := .int k) (by rw [h]) b) else none
  | .dat .str a, .dat .str b => strBin op a b
  | .dat .bool a, .dat .bool b => if Γ.sch t == some .bool then match op with
    | .eql => some (true, .dat .bool (a == b))
    | .neq => some (true, .dat .bool (!(a == b)))
    | _ => none
    else none
  | .dat s a, .dat s' b => if h : s' = s then if mayEq Γ t s then match op with
    | .eql => some (true, .dat .bool (beqT s a (castT h b)))
    | .neq => some (true, .dat .bool (!(beqT s a (castT h b))))
    | _ => none
    else none else none
  | _, _ => none
def aUn (op : UnOp) (x : AV) : Option AV :=
  match op, x with
  | .neg, .dat (.int k) a => some (.dat (.int k) (wNeg k a))
  | .xor, .dat (.int k) a => some (.dat (.int k) (wNot k a))
  | .not, .dat .bool b => some (.dat .bool (!b))
  | _, _ => none
/-- A value that is put among plain data: what lies behind it is frozen. -/
def asPlain (H : List AObj) (s : Sch) (v : AV) : Option (s.T × Upd) := (toDat false H s v).map fun x => (x, freezes H v)

def bldSlice (s : Sch) (cur : List AV) (H : List AObj) : List (Nat × Operand) → List s.T → Upd → Option (List s.T × Upd)
  | [], xs, U => some (xs, U)
  | (i, x) :: r, xs, U => match asPlain H s (opnd cur x) with
    | some (y, V) => if i < xs.length then bldSlice s cur H r (xs.set i y) (U ++ V) else none
    | none => none

def zcells : Sch → List Value
  | .int k => [.int k 0]
  | .bool => [.bool false]
  | .str => [.string ⟨#[]⟩]
  | .slc _ => [.slice none 0 0]
  | .arr n s => (List.replicate n (zcells s)).flatten
  | .pair a b => zcells a ++ zcells b
  | .unit => []
def Sch.isSlc : Sch → Bool
  | .slc _ => true
  | _ => false
/-- The zero of a field, and of a struct: where a field is no plain data (n), slices begin as nil ones, not as data. -/
def zeroField (Γ : Gam) (n : Bool) (t : TypeId) : Option (AV × List Value) :=
  match Γ.at_ t with
  | some { kind := .func, .. } => some (.nilfn, [.nilFunc])
  | some { kind := .ptr _, .. } => some (.nilp, [.pointer none])
  | some { kind := .map _ _, .. } => some (.nilm, [.map none])
  | some ti => ti.sch.map fun s => bif n && s.isSlc then (.nils, [.slice none 0 0]) else (.dat s s.dflt, zcells s)
  | none => none
def zeroStructN (Γ : Gam) (n : Bool) : List (Nat × TypeId) → Option (AV × List Value)
  | [] => some (.dat .unit (), [])
  | (_, t) :: r => match zeroField Γ n t, zeroStructN Γ n r with
    | some (u, L), some (v, M) => some (.mkPr u v, L ++ M)
    | _, _ => none
def zeroStruct (Γ : Gam) (fs : List (Nat × TypeId)) : Option (AV × List Value) := zeroStructN Γ (fs.any fun f => (Γ.sch f.2).isNone) fs
/-- The zero of a struct, and of an array of functions. -/
def zeroAny (Γ : Gam) (ti : TI) : Option (AV × List Value) :=
  match ti.kind with
  | .struct fs => zeroStruct Γ fs
  | .array n e => match Γ.at_ e with
    | some { kind := .func, .. } => some (.fns (List.replicate n none), List.replicate n .nilFunc)
    | _ => none
  | .ptr _ => some (.nilp, [.pointer none])
  | _ => none
/-- An array of functions that is built. -/
def bldFns (cur : List AV) : List (Nat × Operand) → List (Option FuncId) → Option (List (Option FuncId))
  | [], fs => some fs
  | (i, x) :: r, fs => if i < fs.length then match opnd cur x with
    | .fn f .un => bldFns cur r (fs.set i (some f))
    | _ => none
    else none
/-- The parts of a struct that is built, put in place of the zeros. -/
def bldStruct (Γ : Gam) (cur : List AV) (fs : List (Nat × TypeId)) : List (Nat × Operand) → AV → Option AV
  | [], v => some v
  | (k, x) :: r, v =>
    match fs[k]?, v.lay.comp k with
    | some (off, t), some (o, l) => match Γ.at_ t with
      | some ti =>
        let u := opnd cur x
        if o = off ∧ u.stands = true ∧ u.lay = l ∧ l.cells = ti.cells then (v.setComp k u).bind (bldStruct Γ cur fs r) else none
      | none => none
    | _, _ => none

/-- Is a slice type one of elements of so many cells? -/
def Gam.sliceOf (Γ : Gam) (t : TypeId) (n : Nat) : Bool :=
  match Γ.at_ t with
  | some { kind := .slice e, .. } => match Γ.at_ e with
    | some ti => ti.cells == n
    | none => false
  | _ => false
/-- A bound. -/
def bnd : Option AV → Option (Option Int)
  | none => some none
  | some (.dat (.int k) a) => some (some (toI k a))
  | _ => none
def okCut (n : Nat) : Option Int → Option Int → Bool
  | none, none => true
  | none, some h => decide (0 ≤ h) && decide (h ≤ n)
  | some l, none => decide (0 ≤ l) && decide (l ≤ n)
  | some l, some h => decide (0 ≤ l) && decide (l ≤ h) && decide (h ≤ n)
def cut {α : Type} (xs : List α) : Option Int → Option Int → List α
  | none, none => xs
  | none, some h => xs.take h.toNat
  | some l, none => xs.drop l.toNat
  | some l, some h => (xs.take h.toNat).drop l.toNat
def loOf : Option Int → Nat
  | none => 0
  | some l => l.toNat
def hiOf (n : Nat) : Option Int → Nat
  | none => n
  | some h => h.toNat
def aSlice (Γ : Gam) (H : List AObj) (t : TypeId) (x : AV) (lo hi mx : Option AV) : Option (Bool × AV) :=
  match bnd lo, bnd hi, mx with
  | some l, some h, none => match x with
    | .dat .str a => if Γ.sch t == some .str then some (okCut a.length l h, .dat .str (cut a l h)) else none
    | .dat (.slc s) a => if Γ.sliceOf t s.cells then some (okCut a.length l h, .dat (.slc s) (cut a l h)) else none
    | .slx s a => if Γ.sliceOf t s.cells then some (okCut a.length l h, if h.isNone then .slx s (cut a l h) else .dat (.slc s) (cut a l h)) else none
    | .row o => match (ASt.obj H o).elems with
      | some e => if Γ.sliceOf t e.s.cells then some (okCut e.xs.length l h, .sl o (loOf l) (hiOf e.xs.length h - loOf l)) else none
      | none => none
    | .sl o off n => match (ASt.obj H o).elems with
      | some e => if Γ.sliceOf t e.s.cells then some (okCut n l h, .sl o (off + loOf l) (hiOf n h - loOf l)) else none
      | none => none
    | _ => none
  | _, _, _ => none

/-- A slice with three bounds, of which the last two are the same. -/
def isSliceKind (Γ : Gam) (t : TypeId) : Bool :=
  match Γ.at_ t with
  | some { kind := .slice e, .. } => (Γ.at_ e).isSome
  | _ => false
def aSlice3 (Γ : Gam) (H : List AObj) (t : TypeId) (z : Bool) (x : AV) (lo : Option AV) (hi mx : AV) : Option (Bool × AV) :=
  match bnd lo, bnd (some hi), bnd (some mx) with
  | some l, some (some h), some (some m) => match x with
    | .dat (.slc s) a => if Γ.sliceOf t s.cells then some (okCut a.length l (some h) && (m == h), .slx s (cut a l (some h))) else none
    | .slx s a => if Γ.sliceOf t s.cells then some (okCut a.length l (some h) && (m == h), .slx s (cut a l (some h))) else none
    | .row o => match (ASt.obj H o).elems with
      | some e => if Γ.sliceOf t e.s.cells then some (okCut e.xs.length l (some h) && (m == h), if z then .emp else .sl o (loOf l) (h.toNat - loOf l)) else none
      | none => none
    | .sl o off n => match (ASt.obj H o).elems with
      | some e => if Γ.sliceOf t e.s.cells then some (okCut n l (some h) && (m == h), if z then .emp else .sl o (off + loOf l) (h.toNat - loOf l)) else none
      | none => none
    | .nils => if isSliceKind Γ t then some (okCut 0 l (some h) && (m == h), .nils) else none
    | .emp => if isSliceKind Γ t then some (okCut 0 l (some h) && (m == h), .emp) else none
    | _ => none
  | _, _, _ => none
/-- Is a type an array of so many elements of so many cells? -/
def Gam.arrOf (Γ : Gam) (t : TypeId) (n k : Nat) : Bool :=
  match Γ.at_ t with
  | some { kind := .array m e, .. } => match Γ.at_ e with
    | some ti => Nat.beq m n && Nat.beq ti.cells k
    | none => false
  | _ => false
/-- A slice of an array in a variable. -/
def aSliceA (Γ : Gam) (H : List AObj) (t : TypeId) (o : Nat) (lo hi : Option AV) : Option (Bool × AV) :=
  match bnd lo, bnd hi, ASt.obj H o with
  | some l, some h, .box (.dat (.arr n s) _) => if Γ.arrOf t n s.cells then some (okCut n l h, .sl o (loOf l) (hiOf n h - loOf l)) else none
  | _, _, _ => none
def aSliceX (Γ : Gam) (H : List AObj) (t : TypeId) (z : Bool) (x : AV) (lo hi mx : Option AV) : Option (Bool × AV) :=
  match mx with
  | some m => match hi with
    | some h => aSlice3 Γ H t z x lo h m
    | none => none
  | none => match x with
    | .ptr o [] => aSliceA Γ H t o lo hi
    | x => aSlice Γ H t x lo hi none

end Go.AI

/- The abstract machine's run: operations, regions, code, loops, calls. -/
noncomputable section
namespace Go.AI
open Go Go.RowKit

/-- A slice of own slices in a slot becomes a row of plain data. -/
def nstRow (x n : Nat) (st : ASt) : ASt :=
  match ASt.obj st.heap n with
  | .oth (.nst E _ s xss) => { st with cur := st.cur.set x (.row st.heap.length), heap := (st.heap ++ [AObj.row E (.slc s) xss false]).set n .gone }
  | _ => st
/-- Values as plain data, all of one shape. -/
def plainAll (s : Sch) (H : List AObj) : List AV → Option (List s.T)
  | [] => some []
  | v :: vs => match toDat false H s v, plainAll s H vs with
    | some x, some xs => some (x :: xs)
    | _, _ => none
/-- A vector in a slot becomes a row of plain data. -/
def vecRow (Γ : Gam) (x n : Nat) (st : ASt) : ASt :=
  match ASt.obj st.heap n with
  | .oth (.vec E vs) => match Γ.sch E with
    | some s => match plainAll s st.heap vs with
      | some ys => if s.cells = 1 ∧ (vs.flatMap AV.refs).contains n = false then
          { st with cur := st.cur.set x (.row st.heap.length), heap := ((upd st.heap (vs.flatMap (freezes st.heap))) ++ [AObj.row E s ys false]).set n .gone }
        else st
      | none => st
    | none => st
  | _ => st

def putDst (cur : List AV) (d : Option Tmp) (v : AV) : List AV :=
  match d with
  | some t => setR v cur t
  | none => cur

theorem putDst_some (cur : List AV) (t : Tmp) (v : AV) : putDst cur (some t) v = cur.set t v := setR_eq _ _ _

def sameOpnd : Operand → Operand → Bool
  | .tmp a, .tmp b => a == b
  | _, _ => false

def aAppendE (el : Option (TypeId × Sch)) (x y : AV) (H : List AObj) (nid : Nat) : Ans :=
  match el with
  | none => none
  | some (E, s) =>
    match srcElems H s y with
    | none => none
    | some ys =>
      match x with
      | .nils => (newObj? H nid (.row E s ys false)).map fun U => (decide (ys.length ≤ big), .row nid, U)
      | .emp => (newObj? H nid (.row E s ys false)).map fun U => (decide (ys.length ≤ big), .row nid, U)
      | .row o => match ASt.obj H o with
        | .row E' s' xs false => if h : E' = E ∧ s' = s then
            let zs := (castT (s := .slc s') (t := .slc s) (by rw [h.2]) xs) ++ ys
            (newObj? H nid (.row E s zs false)).map fun U => (decide (zs.length ≤ big), .row nid, (o, .gone) :: U)
          else none
        | _ => none
      | .slx s' xs => if h : s' = s then
            let zs := (castT (s := .slc s') (t := .slc s) (by rw [h]) xs) ++ ys
            some (decide (zs.length ≤ big), .dat (.slc s) zs, [])
          else none
      | _ => none
def aAppend (Γ : Gam) (t : TypeId) (x y : AV) (H : List AObj) (nid : Nat) : Ans := aAppendE (Γ.elem t) x y H nid

def aCopy (Γ : Gam) (t : TypeId) (x y : AV) (H : List AObj) : Ans :=
  match Γ.elem t with
  | none => none
  | some (_, s) =>
    match srcElems H s y with
    | none => none
    | some ys =>
      let at_ (o off : Nat) (len : Option Nat) : Ans :=
        let go (xs : List s.T) (back : List s.T → AObj) : Ans :=
          let n := min ys.length (len.getD xs.length)
          some (true, .dat (.int .i64) (n : Int), [(o, back (xs.take off ++ ys.take n ++ xs.drop (off + n)))])
        match ASt.obj H o with
        | .row E' s' xs false => if h : s' = s then go (castT (s := .slc s') (t := .slc s) (by rw [h]) xs) (fun zs => .row E' s zs false) else none
        | .box (.dat (.arr n s') xs) => if h : s' = s then go (castT (s := .slc s') (t := .slc s) (by rw [h]) xs) (fun zs => .box (.dat (.arr n s) zs)) else none
        | _ => none
      match x with
      | .row o => at_ o 0 none
      | .sl o off len => at_ o off (some len)
      | _ => none

/-- The elements of a slice are set to zero. -/
def aClear (Γ : Gam) (t : TypeId) (x : AV) (H : List AObj) : Ans :=
  match Γ.elem t with
  | none => none
  | some (_, s) =>
    let at_ (o off : Nat) (len : Option Nat) : Ans :=
      match ASt.obj H o with
      | .row E' s' xs false => if h : s' = s then
          let ys : List s.T := castT (s := .slc s') (t := .slc s) (by rw [h]) xs
          let n := len.getD ys.length
          some (true, .tup .un, [(o, .row E' s (ys.take off ++ List.replicate n s.dflt ++ ys.drop (off + n)) false)])
        else none
      | _ => none
    match x with
    | .row o => at_ o 0 none
    | .sl o off len => at_ o off (some len)
    | _ => none

def aLoad (Γ : Gam) (t : TypeId) (x : AV) (H : List AObj) : Ans :=
  match Γ.at_ t with
  | none => none
  | some ti =>
    let ok (v : AV) : Ans := if v.stands && v.cells == ti.cells && v.agg == ti.agg then some (true, v, []) else none
    match x with
    | .ptr o p => ok ((ASt.obj H o).get p)
    | .vptr s y => ok (.dat s y)
    | _ => none

def aStore (Γ : Gam) (t : TypeId) (x u : AV) (H : List AObj) : Ans :=
  match Γ.at_ t with
  | none => none
  | some ti =>
    match x with
    | .ptr o p =>
      if u.stands && u.cells == ti.cells then
        match (ASt.obj H o).put p u with
        | some ob => some (true, .dead, [(o, ob)])
        | none => match ti.sch with
          | some s => match asPlain H s u with
            | some (y, V) => if u.refs.contains o then none else match (ASt.obj H o).put p (.dat s y) with
              | some ob => some (true, .dead, V ++ [(o, ob)])
              | none => none
            | none => none
          | none => none
      else none
    | _ => none

def aIndexAddr (Γ : Gam) (t : TypeId) (x i : AV) (H : List AObj) : Ans :=
  match i with
  | .dat (.int k) a =>
    let n := (toI k a).toNat
    let inside (len : Nat) : Bool := decide (0 ≤ toI k a) && decide (toI k a < len)
    let fits (e : TypeId) (s : Sch) : Bool := match Γ.at_ e with | some ti => ti.cells == s.cells | none => false
    match Γ.at_ t with
    | some { kind := .slice e, .. } => match x with
      | .row o => match (ASt.obj H o).elems with
        | some el => if fits e el.s then some (inside el.xs.length, .ptr o [n], []) else none
        | none => none
      | .sl o off len => match (ASt.obj H o).elems with
        | some el => if fits e el.s then some (inside len, .ptr o [off + n], []) else none
        | none => none
      | .dat (.slc s) xs => if fits e s then some (inside xs.length, .vptr s (xs.getD n s.dflt), []) else none
      | .slx s xs => if fits e s then some (inside xs.length, .vptr s (xs.getD n s.dflt), []) else none
      | _ => none
    | some { kind := .array len e, .. } => match x with
      | .ptr o p => match (ASt.obj H o).get p with
        | .dat (.arr m s) _ => if fits e s && m == len then some (inside len, .ptr o (p ++ [n]), []) else none
        | .fns fs => if fits e .bool && fs.length == len then some (inside len, .ptr o (p ++ [n]), []) else none
        | _ => none
      | .vptr (.arr m s) xs => if fits e s && m == len then some (inside len, .vptr s (xs.getD n s.dflt), []) else none
      | _ => none
    | _ => none
  | _ => none

def aIndex (Γ : Gam) (t : TypeId) (x i : AV) : Option (Bool × AV) :=
  match i with
  | .dat (.int k) a =>
    let n := (toI k a).toNat
    let inside (len : Nat) : Bool := decide (0 ≤ toI k a) && decide (toI k a < len)
    match x with
    | .dat .str b => if Γ.sch t == some .str then some (inside b.length, .dat (.int .u8) (b.getD n 0)) else none
    | .dat (.arr m s) xs => match Γ.at_ t with
      | some { kind := .array len e, .. } => match Γ.at_ e with
        | some ti => if ti.cells == s.cells && ti.agg == s.agg && m == len then some (inside len, .dat s (xs.getD n s.dflt)) else none
        | none => none
      | _ => none
    | _ => none
  | _ => none

def fieldOf (Γ : Gam) (t : TypeId) (f : Nat) : Option (Nat × TI) :=
  match Γ.at_ t with
  | some { kind := .struct fs, .. } => match fs[f]? with
    | some (off, ft) => (Γ.at_ ft).map fun ti => (off, ti)
    | none => none
  | _ => none

def aField (Γ : Gam) (t : TypeId) (x : AV) (f : Nat) : Option AV :=
  match fieldOf Γ t f with
  | some (off, ti) =>
    let v := x.comp f
    if ((x.lay.comp f).map (·.1)) == some off && v.stands && v.cells == ti.cells && v.agg == ti.agg then some v else none
  | none => none

def aFieldAddr (Γ : Gam) (t : TypeId) (x : AV) (f : Nat) (H : List AObj) : Option AV :=
  match fieldOf Γ t f with
  | some (off, ti) =>
    if ti.cells = 0 then none else
    match x with
    | .ptr o p => if ((((ASt.obj H o).get p).lay.comp f).map (·.1)) == some off then some (.ptr o (p ++ [f])) else none
    | .vptr s y => match (AV.dat s y).comp f with
      | .dat s' y' => if ((s.lay.comp f).map (·.1)) == some off then some (.vptr s' y') else none
      | _ => none
    | _ => none
  | none => none

def aConvert (Γ : Gam) (src dst : TypeId) (x : AV) (H : List AObj) (nid : Nat) : Ans :=
  match Γ.at_ dst with
  | none => none
  | some td =>
    if (Γ.at_ src).isNone then none else
    match td.sch, x with
    | some (.int k), .dat (.int j) a => some (true, .dat (.int k) (wConv j k a), [])
    | some .str, .dat .str a => some (true, .dat .str a, [])
    | some (.slc (.int .u8)), .dat .str a => match td.kind with
      | .slice e => (newObj? H nid (.row e (.int .u8) a false)).map fun U => (decide (a.length ≤ big), .row nid, U)
      | _ => none
    | some (.slc (.int .u8)), .row o => if src == dst then
        match ASt.obj H o with
        | .row _ (.int .u8) xs false => some (!xs.isEmpty, .row o, [])
        | _ => none
      else none
    | some .str, y => match Γ.sch src with
      | some (.slc (.int .u8)) => (elemsAs H (.int .u8) y).map fun xs => (true, .dat .str xs, [])
      | _ => none
    | _, _ => none

def aMake (Γ : Gam) (t : TypeId) (l c : Operand) (cur : List AV) (H : List AObj) (nid : Nat) : Ans :=
  match Γ.elem t, opnd cur l, opnd cur c with
  | some (E, s), .dat (.int j) a, .dat (.int k) b =>
    (newObj? H nid (.row E s (List.replicate (toI j a).toNat s.dflt) false)).map fun U =>
      (decide (0 ≤ toI j a) && (sameOpnd l c || decide (toI j a ≤ toI k b)) && decide (toI k b ≤ big), .row nid, U)
  | _, _, _ => none

def aMinMax (mx : Bool) (k : IntKind) (a : IT k) : List AV → Option (IT k)
  | [] => some a
  | .dat (.int j) b :: r => if h : j = k then
      aMinMax mx k ((if mx then wMax else wMin) k a (castT (s := .int j) (t := .int k) (by rw [h]) b)) r
    else none
  | _ => none

/-- Is a length's type as its value? -/
def lenTy (Γ : Gam) (t : TypeId) : AV → Bool
  | .dat .str _ => Γ.sch t == some .str
  | _ => match Γ.at_ t with
    | some { kind := .slice _, .. } => true
    | _ => false

def aBuiltin (Γ : Gam) (b : Builtin) (ts : List TypeId) (xs : List AV) (H : List AObj) (nid : Nat) : Ans :=
  match b, ts, xs with
  | .len, [t], [x] => if lenTy Γ t x then (lenOf H x).map fun n => (true, .dat (.int .i64) (n : Int), []) else none
  | .append, [t, t'], [x, y] => if t' == t || Γ.sch t' == some .str then aAppend Γ t x y H nid else none
  | .copy, t :: _, [x, y] => aCopy Γ t x y H
  | .clear, [t], [x] => aClear Γ t x H
  | .max, _, .dat (.int k) a :: r => (aMinMax true k a r).map fun n => (true, .dat (.int k) n, [])
  | .min, _, .dat (.int k) a :: r => (aMinMax false k a r).map fun n => (true, .dat (.int k) n, [])
  | _, _, _ => none

def plainAns (r : Option (Bool × AV)) : Ans := r.map fun x => (x.1, x.2, [])
def plainAV (r : Option AV) : Ans := r.map fun x => (true, x, [])

/-- An array in a variable is no longer than slices are. -/
def boxSmall : Sch → Bool
  | .arr n _ => decide (n ≤ maxLen)
  | _ => true
def avSmall : AV → Bool
  | .dat s _ => boxSmall s
  | _ => true

/-- Is it [:0:..]? -/
def isZero : Option Operand → Option Operand → Bool
  | none, some (.const (.int _ 0)) => true
  | _, _ => false
/-- The place behind the rune at a place. -/
def nextPos (s : List UInt8) (pos : Nat) : Nat := pos + (Utf8.decode ⟨s.toArray⟩ pos).2
/-- Maps, as lists of what they hold, in the order in which it came. -/
def mfind {α β : Type} (eq : α → α → Bool) (x : α) : List (α × β) → Option β
  | [] => none
  | e :: l => bif eq x e.1 then some e.2 else mfind eq x l
def mput {α β : Type} (eq : α → α → Bool) (x : α) (v : β) : List (α × β) → List (α × β)
  | [] => [(x, v)]
  | e :: l => bif eq x e.1 then (x, v) :: l else e :: mput eq x v l
/-- The types and shapes of a map's keys and values. -/
def Gam.mapOf (Γ : Gam) (t : TypeId) : Option (TypeId × TypeId × Sch × Sch) :=
  match Γ.at_ t with
  | some { kind := .map k v, .. } => match Γ.sch k, Γ.sch v with
    | some ks, some vs => some (k, v, ks, vs)
    | _, _ => none
  | _ => none
def keySch : Sch → Bool
  | .int _ => true
  | _ => false
/-- May a map's keys be looked up? -/
def Gam.keyT (Γ : Gam) (t : TypeId) : Bool := match Γ.at_ t with
  | some ti => ti.eq
  | none => false
def aMakeMap (Γ : Gam) (t : TypeId) (H : List AObj) (nid : Nat) : Ans :=
  match Γ.mapOf t with
  | some (k, v, ks, vs) => if (keySch ks || Γ.keyT t) = true then match Γ.elem v with
      | some (E, s) => bif Γ.keyT t then (newObj? H nid (.oth (.mp k v ks vs []))).map fun U => (true, .hnd .map nid, U) else (newObj? H nid (.oth (.mps k v E ks s [] none))).map fun U => (true, .hnd .map nid, U)
      | none => (newObj? H nid (.oth (.mp k v ks vs []))).map fun U => (true, .hnd .map nid, U)
    else none
  | none => none
/-- A value is looked up. A slice of the map's own is lent (mv), or only looked at. -/
def aLookup (mv : Bool) (Γ : Gam) (t : TypeId) (m x : AV) (ok : Bool) (H : List AObj) (nid : Nat) : Ans :=
  match Γ.mapOf t with
  | some (k, v, ks, vs) => match m, x with
    | .hnd .map o, .dat s y => match ASt.obj H o with
      | .oth (.mp k' v' ks' vs' l) => if h : s = ks' then (if k' = k ∧ v' = v ∧ ks' = ks ∧ vs' = vs ∧ Γ.keyT t = true ∧ vs'.agg = false then
          let r := mfind (beqT ks') (castT h y) l
          some (true, if ok then .tup (.pr (.dat vs' (r.getD vs'.dflt)) (.pr (.dat .bool r.isSome) .un)) else .dat vs' (r.getD vs'.dflt), [])
        else none) else none
      | .oth (.mps k' v' E ks' s' l none) => if h : s = ks' then (if k' = k ∧ v' = v ∧ ks' = ks ∧ Γ.elem v' = some (E, s') ∧ keySch ks' = true ∧ ok = false then
          let r := mfind (beqT ks') (castT h y) l
          bif mv then (newObj? H nid (.row E s' (r.getD []) false)).map fun U => (r.isSome, .row nid, (o, .oth (.mps k' v' E ks' s' l (some (castT h y)))) :: U)
          else some (true, .pk r.isNone (r.getD []).length, [])
        else none) else none
      | _ => none
    | _, _ => none
  | none => none
def aMapUpdate (Γ : Gam) (t : TypeId) (m x u : AV) (H : List AObj) : Ans :=
  match Γ.mapOf t with
  | some (k, v, ks, vs) => match m, x with
    | .hnd .map o, .dat s y => match ASt.obj H o with
      | .oth (.mp k' v' ks' vs' l) => if h : s = ks' then (if k' = k ∧ v' = v ∧ ks' = ks ∧ vs' = vs ∧ Γ.keyT t = true ∧ vs'.agg = false ∧ u.stands = true ∧ u.agg = false ∧ u.refs.contains o = false then
          match asPlain H vs' u with
          | some (z, V) => some (decide (l.length < big), .dead, V ++ [(o, .oth (.mp k' v' ks' vs' (mput (beqT ks') (castT h y) z l)))])
          | none => none
        else none) else none
      | .oth (.mps k' v' E ks' s' l lent) => if h : s = ks' then (if k' = k ∧ v' = v ∧ ks' = ks ∧ keySch ks' = true then match u with
          | .row o2 => match ASt.obj H o2 with
            | .row E2 s2 xs false => if h2 : s2 = s' then (if E2 = E then
                some ((match lent with | none => true | some z => beqT ks' z (castT h y)) && decide (0 < xs.length) && decide (l.length < big), .dead,
                  [(o2, .gone), (o, .oth (.mps k' v' E ks' s' (mput (beqT ks') (castT h y) (castT (s := .slc s2) (t := .slc s') (by rw [h2]) xs) l) none))])
              else none) else none
            | _ => none
          | _ => none
        else none) else none
      | _ => none
    | _, _ => none
  | none => none
/-- One operation that is no call of a function. -/
def aop (mv : Bool) (Γ : Gam) (o : Op) (cur : List AV) (H : List AObj) (nid : Nat) : Ans :=
  let e := opnd cur
  match o with
  | .move x => some (true, e x, [])
  | .assign x => some (true, e x, [])
  | .pick c a b => match e c with
    | .dat .bool true => some (true, e a, [])
    | .dat .bool false => some (true, e b, [])
    | _ => none
  | .alloc t => match Γ.sch t with
    | some s => if boxSmall s then (newObj? H nid (.box (bif s.isSlc then .nils else .dat s s.dflt))).map fun U => (true, .ptr nid [], U) else none
    | none => match Γ.at_ t with
      | some ti => match zeroAny Γ ti with
        | some (z, _) => if avSmall z then (newObj? H nid (.box z)).map fun U => (true, .ptr nid [], U) else none
        | none => none
      | none => none
  | .box _ x => if (e x).stands && avSmall (e x) then (newObj? H nid (.box (e x))).map fun U => (true, .ptr nid [], U) else none
  | .build t parts => match Γ.at_ t with
    | some { kind := .struct fs, .. } => match zeroStruct Γ fs with
      | some (z, _) => plainAV (bldStruct Γ cur fs parts.toList z)
      | none => none
    | some { kind := .array n _, sch := some (.arr m s), .. } => if m = n then (bldSlice s cur H parts.toList (List.replicate n s.dflt) []).map fun x => (true, .dat (.arr n s) x.1, x.2) else none
    | some { kind := .array n e, sch := none, .. } => match Γ.at_ e with
      | some { kind := .func, .. } => plainAV ((bldFns cur parts.toList (List.replicate n none)).map .fns)
      | _ => none
    | _ => none
  | .buildSlice t n parts => match Γ.elem t with
    | some (E, s) => if n ≤ 65536 ∧ n * s.cells ≤ 16777216 then match bldSlice s cur H parts.toList (List.replicate n s.dflt) [] with
        | some (xs, V) => if (V.map (·.1)).contains nid then none else (newObj? H nid (.row E s xs false)).map fun U => (true, .row nid, V ++ U)
        | none => none
      else none
    | none => none
  | .load t a => aLoad Γ t (e a) H
  | .store t a x => aStore Γ t (e a) (e x) H
  | .nilCheck x => match e x with
    | .ptr o p => if (ASt.obj H o).live then some (true, .ptr o p, []) else none
    | .vptr s y => some (true, .vptr s y, [])
    | .fn f c => some (true, .fn f c, [])
    | _ => none
  | .binOp op t x y _ => plainAns (aBin Γ t op (e x) (e y))
  | .unOp op _ x => plainAV (aUn op (e x))
  | .convert s d x => aConvert Γ s d (e x) H nid
  | .makeFunc (.func f) first caps => if caps.size = 0 ∧ first.size ≠ 0 ∧ first.toList.all (fun x => !(e x).isTup) then some (true, .mv f (first.toList.foldr (fun x r => .pr (e x) r) .un), []) else if first.size = 0 ∧ caps.toList.all (fun x => !(e x).isTup) then some (true, .fn f (caps.toList.foldr (fun x r => .pr (e x) r) .un), []) else none
  | .makeSlice t l c => aMake Γ t l c cur H nid
  | .slice t x lo hi mx => plainAns (aSliceX Γ H t (isZero lo hi) (e x) (lo.map e) (hi.map e) (mx.map e))
  | .makeInterface t x => match e x, Γ.at_ t with
    | .dat .unit _, some { kind := .struct _, .. } => some (true, .ifc t, [])
    | _, _ => none
  | .range t x => match e x with
    | .dat .str s => if Γ.sch t == some .str then (newObj? H nid (.oth (.sit s 0))).map fun U => (true, .ptr nid [], U) else none
    | _ => none
  | .fieldAddr t x f => plainAV (aFieldAddr Γ t (e x) f H)
  | .field t x f => plainAV (aField Γ t (e x) f)
  | .indexAddr t x i => aIndexAddr Γ t (e x) (e i) H
  | .index t x i => plainAns (aIndex Γ t (e x) (e i))
  | .extract x i => match e x with
    | .tup v => match v.comp i with
      | .dead => none
      | u => some (true, u, [])
    | _ => none
  | .makeMap t none => aMakeMap Γ t H nid
  | .lookup t m x ok => aLookup mv Γ t (e m) (e x) ok H nid
  | .mapUpdate t m x u => aMapUpdate Γ t (e m) (e x) (e u) H
  | .call { callee := .builtin b, args, argTypes } => aBuiltin Γ b argTypes.toList (args.toList.map e) H nid
  | _ => none

/-- Vectors, and slices of own slices. -/
def AV.single (v : AV) : Bool := v.stands && !v.agg
def nBuild (Γ : Gam) (t : TypeId) (n : Nat) (parts : List (Nat × Operand)) (cur : List AV) (H : List AObj) (nid : Nat) : Ans :=
  match Γ.nest t with
  | some E =>
    let vs := parts.map fun x => opnd cur x.2
    if parts.map (·.1) = List.range n ∧ 0 < n ∧ n ≤ 65536 ∧ vs.all AV.single = true then (newObj? H nid (.oth (.vec E vs))).map fun U => (true, .hnd (.vec 0 n) nid, U) else none
  | none => none
def isNat : AV → Option Nat
  | .dat (.int _) a => some (toI _ a).toNat
  | _ => none
def nMake (Γ : Gam) (t : TypeId) (l c : Operand) (cur : List AV) (H : List AObj) (nid : Nat) : Ans :=
  match Γ.elemQ t, opnd cur l, opnd cur c with
  | some (E, se), .dat (.int j) a, .dat (.int k) b =>
    bif se.isSlc then (newObj? H nid (.oth (.vec E (List.replicate (toI j a).toNat .nils)))).map fun U =>
      (decide (0 ≤ toI j a) && (sameOpnd l c || decide (toI j a ≤ toI k b)) && decide (toI k b ≤ big), .hnd (.vec 0 (toI j a).toNat) nid, U)
    else none
  | _, _, _ => none
/-- One value is appended: to nothing, to a vector; a slice of the call's own to a slice of own slices. -/
def nAppend (Γ : Gam) (t : TypeId) (x y : AV) (H : List AObj) (nid : Nat) : Ans :=
  match Γ.elemQ t, y with
  | some (E, se), .hnd (.vec 0 1) oy => bif Nat.beq se.cells 1 && !se.agg then match ASt.obj H oy with
    | .oth (.vec _ [u]) => match x with
      | .nils => (newObj? H nid (.oth (.vec E [u]))).map fun U => (u.single, .hnd (.vec 0 1) nid, U)
      | .hnd (.vec 0 n) ox => match ASt.obj H ox with
        | .oth (.vec E' vs) => if E' = E ∧ vs.length = n then (newObj? H nid (.oth (.vec E (vs ++ [u])))).map fun U => (decide (n + 1 ≤ big) && u.single, .hnd (.vec 0 (n + 1)) nid, (ox, .gone) :: U) else none
        | _ => none
      | .hnd .nst ox => match ASt.obj H ox, u with
        | .oth (.nst E' Ei s xss), .row r => match ASt.obj H r with
          | .row Er sr xs false => if h : sr = s then
              (if E' = E ∧ Er = Ei ∧ s.cells = 1 then
                (newObj? H nid (.oth (.nst E Ei s (xss ++ [castT (s := .slc sr) (t := .slc s) (by rw [h]) xs])))).map fun U => (decide (xss.length + 1 ≤ big) && decide (0 < xs.length), .hnd .nst nid, (ox, .gone) :: (r, .gone) :: U)
              else none) else none
          | _ => none
        | _, _ => none
      | _ => none
    | _ => none
    else none
  | _, _ => none
def nLen (H : List AObj) : AV → Option Nat
  | .hnd (.vec _ n) o => match ASt.obj H o with
    | .oth (.vec _ _) => some n
    | _ => none
  | .hnd .nst o => match ASt.obj H o with
    | .oth (.nst _ _ _ xss) => some xss.length
    | _ => none
  | .hnd (.nrow i) o => match ASt.obj H o with
    | .oth (.nst _ _ s xss) => some (xss.getD i ([] : List s.T)).length
    | _ => none
  | _ => none
/-- Is it a slice type whose elements have one cell? -/
def oneCellTy (Γ : Gam) (t : TypeId) : Bool := match Γ.at_ t with
  | some { kind := .slice e, .. } => match Γ.at_ e with
    | some ti => ti.cells == 1
    | none => false
  | _ => false
def nIndex (Γ : Gam) (t : TypeId) (x i : AV) (H : List AObj) : Ans :=
  match i with
  | .dat (.int k) a =>
    let n := (toI k a).toNat
    let inside (len : Nat) : Bool := decide (0 ≤ toI k a) && decide (toI k a < len)
    bif oneCellTy Γ t then match x with
      | .hnd (.vec off len) o => match ASt.obj H o with
        | .oth (.vec _ _) => some (inside len, .hnd (.vslot (off + n)) o, [])
        | _ => none
      | .hnd .nst o => match ASt.obj H o with
        | .oth (.nst _ _ _ xss) => some (inside xss.length, .hnd (.nslot n) o, [])
        | _ => none
      | .hnd (.nrow j) o => match ASt.obj H o with
        | .oth (.nst _ _ s xss) => some (inside (xss.getD j ([] : List s.T)).length, .hnd (.nelem j n) o, [])
        | _ => none
      | _ => none
    else none
  | _ => none
def nLoad (Γ : Gam) (t : TypeId) (x : AV) (H : List AObj) : Ans :=
  match Γ.at_ t with
  | some ti => if ti.cells = 1 ∧ ti.agg = false then match x with
    | .hnd (.vslot i) o => match ASt.obj H o with
      | .oth (.vec _ vs) => (vs[i]?).map fun v => (v.single, v, [])
      | _ => none
    | .hnd (.nslot i) o => match ASt.obj H o with
      | .oth (.nst _ _ _ xss) => some (decide (i < xss.length), .hnd (.nrow i) o, [])
      | _ => none
    | .hnd (.nelem i k) o => match ASt.obj H o with
      | .oth (.nst _ _ s xss) => some (!s.agg && s.cells == 1 && decide (k < (xss.getD i ([] : List s.T)).length), .dat s ((xss.getD i ([] : List s.T)).getD k s.dflt), [])
      | _ => none
    | _ => none
    else none
  | none => none
def nStore (Γ : Gam) (t : TypeId) (x u : AV) (H : List AObj) : Ans :=
  match Γ.at_ t with
  | some ti => if ti.cells = 1 then match x with
    | .hnd (.vslot i) o => match ASt.obj H o with
      | .oth (.vec E vs) => some (u.single && decide (i < vs.length), .dead, [(o, .oth (.vec E (vs.set i u)))])
      | _ => none
    | .hnd (.nelem i k) o => match ASt.obj H o, u with
      | .oth (.nst E Ei s xss), .dat s' y => if h : s' = s then
          some (!s.agg && s.cells == 1 && decide (k < (xss.getD i ([] : List s.T)).length), .dead, [(o, .oth (.nst E Ei s (xss.set i ((xss.getD i ([] : List s.T)).set k (castT h y)))))])
        else none
      | _, _ => none
    | _ => none
    else none
  | none => none
def nSlice (Γ : Gam) (t : TypeId) (x : AV) (lo hi mx : Option AV) (H : List AObj) : Ans :=
  match bnd lo, bnd hi, mx with
  | some l, some h, none => match x with
    | .hnd (.vec off n) o => match ASt.obj H o with
      | .oth (.vec _ _) => if Γ.sliceOf t 1 then some (okCut n l h, .hnd (.vec (off + loOf l) (hiOf n h - loOf l)) o, []) else none
      | _ => none
    | .nils => match Γ.elem t with
      | some (_, s) => if Γ.sliceOf t s.cells then some (okCut 0 l h, .nils, []) else none
      | none => none
    | _ => none
  | _, _, _ => none
/-- As many zeros are appended to nothing. -/
def nZeros (Γ : Gam) (t t' : TypeId) (x y : AV) (H : List AObj) (nid : Nat) : Ans :=
  match Γ.elem t, Γ.sch t', x, y with
  | some (E, s), some (.int .i64), .nils, .dat (.int k) a =>
    (newObj? H nid (.row E s (List.replicate (toI k a).toNat s.dflt) false)).map fun U => (decide (0 < toI k a) && decide (toI k a ≤ big), .row nid, U)
  | _, _, _, _ => none
/-- A map is walked through: it belongs to the walk from here on. -/
def nRange (Γ : Gam) (t : TypeId) (x : AV) (H : List AObj) (nid : Nat) : Ans :=
  match Γ.mapOf t, x with
  | some _, .hnd .map o => match ASt.obj H o with
    | .oth (.mp k v ks vs m) => (newObj? H nid (.oth (.mit k v ks vs m []))).map fun U => (true, .ptr nid [], (o, .gone) :: U)
    | _ => none
  | _, _ => none
def nEntry (x : AV) (H : List AObj) : Ans :=
  match x with
  | .ptr n [] => match ASt.obj H n with
    | .oth (.mit _ _ ks vs m done) => match done.getLast? with
      | some j => match m[j]? with
        | some e => some (true, .tup (.pr (.dat ks e.1) (.pr (.dat vs e.2) .un)), [])
        | none => none
      | none => none
    | _ => none
  | _ => none
def mapLen (Γ : Gam) (t : TypeId) (x : AV) (H : List AObj) : Ans :=
  match Γ.mapOf t, x with
  | some _, .hnd .map o => match ASt.obj H o with
    | .oth (.mp _ _ _ _ m) => some (true, .dat (.int .i64) (m.length : Int), [])
    | _ => none
  | _, _ => none
/-- The operations on them. -/
def nest (mv : Bool) (Γ : Gam) (o : Op) (cur : List AV) (H : List AObj) (nid : Nat) : Ans :=
  let e := opnd cur
  match o with
  | .buildSlice t n parts => bif mv then none else nBuild Γ t n parts.toList cur H nid
  | .makeSlice t l c => bif mv then none else nMake Γ t l c cur H nid
  | .load t x => nLoad Γ t (e x) H
  | .store t x y => nStore Γ t (e x) (e y) H
  | .indexAddr t x i => nIndex Γ t (e x) (e i) H
  | .slice t x lo hi mx => nSlice Γ t (e x) (lo.map e) (hi.map e) (mx.map e) H
  | .call { callee := .builtin .len, args, argTypes } => match argTypes.toList, args.toList with
    | [t], [x] => if lenTy Γ t (e x) then (nLen H (e x)).map fun n => (true, .dat (.int .i64) (n : Int), []) else mapLen Γ t (e x) H
    | _, _ => none
  | .range t x => bif mv then none else nRange Γ t (e x) H nid
  | .entry x => nEntry (e x) H
  | .call { callee := .builtin .append, args, argTypes } => bif mv then none else match argTypes.toList, args.toList with
    | [t, t'], [x, y] => if t' = t then match e x with
      | .row o => aAppendE (Γ.elemQ t) (.row o) (e y) H nid
      | v => nAppend Γ t v (e y) H nid
      else nZeros Γ t t' (e x) (e y) H nid
    | _, _ => none
  | .call { callee := .builtin .cap, args, argTypes } => match argTypes.toList, args.toList with
    | [t], [x] => match e x with
      | .nils => if isSliceKind Γ t then some (true, .dat (.int .i64) (0 : Int), []) else none
      | _ => none
    | _, _ => none
  | _ => none

/-- Boundary values: what goes in and out of a contract. -/
inductive BV where
  | d (s : Sch) (x : s.T)
  | o (E : TypeId) (s : Sch) (xs : List s.T)
  | f (g : FuncId)
  /-- a pointer to memory that nobody writes -/
  | p (s : Sch) (x : s.T)
  deriving Inhabited
/-- How an argument is handed over. -/
inductive PM where
  | d (s : Sch)
  | o (E : TypeId) (s : Sch)
  | f
  | p (s : Sch)
  deriving DecidableEq, Inhabited
def BV.mode : BV → PM
  | .d s _ => .d s
  | .o E s _ => .o E s
  | .f _ => .f
  | .p s _ => .p s
/-- A contract: how the arguments are handed over, whether nothing in the results is old memory, how many rows of the caller's own it hands out, and what it answers. -/
structure Orc where
  ps : List PM
  fresh : Bool
  rows : Nat
  fn : List BV → Option (Bool × List BV)

/-- Does plain data of a shape need no memory? -/
def Sch.flat : Sch → Bool
  | .slc _ => false
  | .arr _ s => s.flat
  | .pair a b => a.flat && b.flat
  | _ => true
def BV.flat : BV → Bool
  | .d s _ => s.flat
  | .o _ s _ => s.flat
  | .f _ => true
  | .p _ _ => false

/-- Arguments handed over. -/
def toArg (fresh : Bool) (H : List AObj) : PM → AV → Option (BV × Upd)
  | .d s, v => (toDat fresh H s v).map fun x => (.d s x, if fresh then [] else freezes H v)
  | .o E s, .nils => some (.o E s [], [])
  | .o E s, .row o => match ASt.obj H o with
    | .row E' s' xs false => if h : E' = E ∧ s' = s then some (.o E s (castT (s := .slc s') (t := .slc s) (by rw [h.2]) xs), [(o, .gone)]) else none
    | _ => none
  | .f, .fn g .un => some (.f g, [])
  | .p s, .vptr t x => if h : t = s then some (.p s (castT h x), []) else none
  | .p s, .ptr o [] => if fresh then match ASt.obj H o with
      | .box (.dat t x) => if h : t = s then some (.p s (castT h x), []) else none
      | _ => none
    else none
  | _, _ => none
def toArgs (fresh : Bool) (H : List AObj) : List PM → List AV → Option (List BV × Upd)
  | [], [] => some ([], [])
  | m :: ms, v :: vs => match toArg fresh H m v, toArgs fresh H ms vs with
    | some (b, U), some (bs, V) => some (b :: bs, U ++ V)
    | _, _ => none
  | _, _ => none
/-- Rows that are handed over whole are handed over once, and looked at in no other way. -/
def goneOf (U : Upd) : List Nat := U.filterMap fun x => match x.2 with | .gone => some x.1 | _ => none
def onceOnly (U : Upd) (vs : List AV) : Bool := (goneOf U).all fun o => (vs.flatMap AV.refs).count o == 1

/-- Results taken over, new rows from the place nid on. -/
def ofRess (H : List AObj) : List BV → Nat → Option (List AV × Upd)
  | [], _ => some ([], [])
  | .d s x :: bs, nid => (ofRess H bs nid).map fun r => (.dat s x :: r.1, r.2)
  | .o E s xs :: bs, nid => match newObj? H nid (.row E s xs false), ofRess H bs (nid + 1) with
    | some U, some r => some (.row nid :: r.1, U ++ r.2)
    | _, _ => none
  | .f g :: bs, nid => (ofRess H bs nid).map fun r => (.fn g .un :: r.1, r.2)
  | .p s x :: bs, nid => (ofRess H bs nid).map fun r => (.vptr s x :: r.1, r.2)
def rowsOf (bs : List BV) : Nat := (bs.filter fun b => match b with | .o _ _ _ => true | _ => false).length
def packed : List AV → AV
  | [v] => v
  | vs => .tup (vs.foldr .pr .un)
def unchain : AV → Option (List AV)
  | .un => some []
  | .pr a b => (unchain b).map (a :: ·)
  | _ => none

/-- A call by its contract. -/
def aOrc (c : Orc) (args : List AV) (H : List AObj) (nid : Nat) : Ans :=
  match toArgs c.fresh H c.ps args with
  | some (bs, U) => if onceOnly U args then match c.fn bs with
    | some (pre, rs) => if rowsOf rs = c.rows ∧ (!c.fresh || rs.all BV.flat) = true then (ofRess H rs nid).map fun r => (pre, packed r.1, U ++ r.2) else none
    | none => none
    else none
  | none => none

def calleeOf (cur : List AV) (f : Operand) (args : List AV) : Option (FuncId × List AV) :=
  match opnd cur f with
  | .fn g caps => (unchain caps).map fun cs => (g, args ++ cs)
  | .mv g fst => (unchain fst).map fun cs => (g, cs ++ args)
  | _ => none

/-- The book of contracts. -/
abbrev Orcs := FuncId → Option Orc

/-- How many objects an operation may make. -/
def makes (orc : Orcs) (o : Op) : Nat :=
  match o with
  | .alloc _ => 1
  | .box _ _ => 1
  | .buildSlice _ _ _ => 1
  | .convert _ _ _ => 1
  | .makeSlice _ _ _ => 1
  | .range _ _ => 1
  | .makeMap _ _ => 1
  | .lookup _ _ _ _ => 1
  | .call { callee := .builtin .append, .. } => 1
  | .call { callee := .value (.func g), .. } => match orc g with
    | some c => c.rows
    | none => 0
  | .call { callee := .value _, .. } => 4
  | _ => 0
/-- One operation that is no run of a function's body. -/
def astep (mv : Bool) (Γ : Gam) (orc : Orcs) (o : Op) (cur : List AV) (H : List AObj) (nid : Nat) : Ans :=
  match o with
  | .call { callee := .value f, args, .. } => match calleeOf cur f (args.toList.map (opnd cur)) with
    | some (g, as) => match orc g with
      | some c => if c.rows ≤ makes orc o then aOrc c as H nid else none
      | none => none
    | none => none
  | o => match aop mv Γ o cur H nid with
    | some r => some r
    | none => nest mv Γ o cur H nid

def makesAll (orc : Orcs) : List Oper → Nat
  | [] => 0
  | o :: r => makes orc o.op + makesAll orc r

/-- What is run in place: a function, or a round of a range over a function. -/
abbrev Callee := FuncId ⊕ Nat
abbrev CallTo (R : Type) := Callee → List AV → ASt → (AV → ASt → Option R) → (TypeId → ASt → Option R) → Option R

section
variable {R : Type}

/-- Is it the run of a body? -/
def bodyCall (orc : Orcs) (cur : List AV) (o : Op) : Option (Callee × List AV) :=
  match o with
  | .call { callee := .value f, args, .. } => match calleeOf cur f (args.toList.map (opnd cur)) with
    | some (g, as) => match orc g with
      | some _ => none
      | none => some (.inl g, as)
    | none => match opnd cur f with
      | .hnd .yield o => some (.inr o, args.toList.map (opnd cur))
      | _ => none
  | _ => none
/-- What is panicked with. -/
def panicOf (cur : List AV) (o : Op) : Option TypeId :=
  match o with
  | .panic x => match opnd cur x with
    | .ifc t => some t
    | _ => none
  | _ => none

/-- Operations that lead one of two ways. -/
def forkOf (o : Op) (cur : List AV) (H : List AObj) : Option (Bool × (AV × Upd) × (AV × Upd)) :=
  match o with
  | .next it true => match opnd cur it with
    | .ptr n [] => match ASt.obj H n with
      | .oth (.sit s pos) => some (decide (pos < s.length), (.tup (.pr (.dat .bool true) (.pr (.dat (.int .i64) (pos : Int)) (.pr .dead .un))), [(n, .oth (.sit s (nextPos s pos)))]), (.tup (.pr (.dat .bool false) .un), []))
      | _ => none
    | _ => none
  | _ => none
/-- A call of one of some functions. -/
def selCall (call : CallTo R) (as : List AV) (st : ASt) (kk : AV → ASt → Option R) (kx : TypeId → ASt → Option R) (i : Nat) : List (Option FuncId) → Nat → Option R
  | [], _ => none
  | g :: r, j => bif Nat.beq i j then match g with
      | some g => call (.inl g) as st kk kx
      | none => none
    else selCall call as st kk kx i r (j + 1)
def selOf (cur : List AV) (o : Op) : Option (List (Option FuncId) × Nat × List AV) :=
  match o with
  | .call { callee := .value f, args, .. } => match opnd cur f with
    | .fsel fs i => some (fs, i, args.toList.map (opnd cur))
    | _ => none
  | _ => none

/-- Both ways lead to the end. -/
def both (a b : Option R) : Option R :=
  match a with
  | some _ => b
  | none => none
/-- All ways lead to the end. -/
def allWays {α : Type} (f : α → Option R) : List α → Option R
  | [] => none
  | [x] => f x
  | x :: y :: l => both (f x) (allWays f (y :: l))
/-- Operations that lead one of many ways. -/
def manyOf (o : Op) (cur : List AV) (H : List AObj) : Option (List (AV × Upd)) :=
  match o with
  | .next it false => match opnd cur it with
    | .ptr n [] => match ASt.obj H n with
      | .oth (.mit k v ks vs m done) =>
        let left := (List.range m.length).filter fun j => !done.contains j
        bif left.isEmpty then some [(.tup (.pr (.dat .bool false) .un), [])]
        else some (left.map fun j => (.tup (.pr (.dat .bool true) (.pr .dead (.pr .dead .un))), [(n, .oth (.mit k v ks vs m (done ++ [j])))]))
      | _ => none
    | _ => none
  | _ => none
/-- May a slice be nil, and may it be none? -/
def nilLen (H : List AObj) : AV → Option (Bool × Bool)
  | .nils => some (true, false)
  | .emp => some (true, true)
  | .dat (.slc _) xs => some (xs.isEmpty, true)
  | .slx _ xs => some (xs.isEmpty, true)
  | .row o => (ASt.obj H o).elems.map fun e => (e.xs.isEmpty, true)
  | .sl o _ n => (ASt.obj H o).elems.map fun _ => (Nat.beq n 0, true)
  | .pk b _ => some (b, false)
  | _ => none
def isSliceTy (Γ : Gam) (t : TypeId) : Bool :=
  match Γ.at_ t with
  | some { kind := .slice _, .. } => true
  | _ => false
/-- Is it a test of a slice against nil? -/
def nilTest (Γ : Gam) (o : Op) (cur : List AV) (H : List AObj) : Option ((Bool × Bool) × Bool) :=
  match o with
  | .binOp .eql t x (.const (.slice none 0 0)) _ => if isSliceTy Γ t then (nilLen H (opnd cur x)).map fun p => (p, false) else none
  | .binOp .neq t x (.const (.slice none 0 0)) _ => if isSliceTy Γ t then (nilLen H (opnd cur x)).map fun p => (p, true) else none
  | _ => none

def xopS (Γ : Gam) (orc : Orcs) (call : CallTo R) (o : Oper) (nid : Nat) (st : ASt) (kk : ASt → Option R) (kx : TypeId → ASt → Option R) : Option R :=
  match bodyCall orc st.cur o.op with
  | some (g, as) => call g as st (fun v st' => kk { st' with cur := putDst st'.cur o.dst v }) kx
  | none => match nilTest Γ o.op st.cur st.heap with
    | some ((may, non), neg) =>
      let way (b : Bool) : Option R := kk { st with cur := putDst st.cur o.dst (.dat .bool (b != neg)) }
      bif may then (bif non then both (way true) (way false) else way true) else way false
    | none => match forkOf o.op st.cur st.heap with
      | some (c, a, b) =>
        let way (x : AV × Upd) : Option R := kk { st with cur := putDst st.cur o.dst x.1, heap := upd st.heap x.2 }
        bif c then way a else way b
      | none => match selOf st.cur o.op with
      | some (fs, i, as) => selCall call as st (fun v st' => kk { st' with cur := putDst st'.cur o.dst v }) kx i fs 0
      | none => match astep false Γ orc o.op st.cur st.heap nid with
      | some (c, v, U) => bif c then kk { st with cur := putDst st.cur o.dst v, heap := upd st.heap U } else none
      | none => match panicOf st.cur o.op with
        | some t => kx t st
        | none => match manyOf o.op st.cur st.heap with
          | some l => allWays (fun x : AV × Upd => kk { st with cur := putDst st.cur o.dst x.1, heap := upd st.heap x.2 }) l
          | none => none
/-- May an operation do more than what one step of the machine does? -/
def slowOp : Op → Bool
  | .call _ => true
  | .next _ _ => true
  | .panic _ => true
  | .binOp _ _ _ _ _ => true
  | _ => false
def xop (Γ : Gam) (orc : Orcs) (call : CallTo R) (o : Oper) (nid : Nat) (st : ASt) (kk : ASt → Option R) (kx : TypeId → ASt → Option R) : Option R :=
  bif slowOp o.op then xopS Γ orc call o nid st kk kx
  else match astep false Γ orc o.op st.cur st.heap nid with
    | some (c, v, U) => bif c then kk { st with cur := putDst st.cur o.dst v, heap := upd st.heap U } else none
    | none => none
theorem xop_eq (Γ : Gam) (orc : Orcs) (call : CallTo R) (o : Oper) (nid : Nat) (st : ASt) (kk : ASt → Option R) (kx : TypeId → ASt → Option R) : xop Γ orc call o nid st kk kx = xopS Γ orc call o nid st kk kx := by
  unfold xop
  cases hs : slowOp o.op with
  | true => rfl
  | false =>
    rw [cond_false]
    unfold xopS
    have h1 : bodyCall orc st.cur o.op = none := by generalize o.op = op at hs; cases op <;> first | rfl | cases hs
    have h2 : nilTest Γ o.op st.cur st.heap = none := by generalize o.op = op at hs; cases op <;> first | rfl | cases hs
    have h3 : forkOf o.op st.cur st.heap = none := by generalize o.op = op at hs; cases op <;> first | rfl | cases hs
    have h4 : selOf st.cur o.op = none := by generalize o.op = op at hs; cases op <;> first | rfl | cases hs
    have h5 : panicOf st.cur o.op = none := by generalize o.op = op at hs; cases op <;> first | rfl | cases hs
    have h6 : manyOf o.op st.cur st.heap = none := by generalize o.op = op at hs; cases op <;> first | rfl | cases hs
    rw [h1, h2, h3, h4, h5, h6]

def guardAt (ops : List Oper) (cur : List AV) (j : Nat) : Option (Nat × Bool) :=
  match (ops[j]?).bind (·.dst) with
  | some d => match cur.getD d .dead with
    | .dat .bool b => some (d, b)
    | _ => none
  | none => none

/-- What a slot holds whose operation was passed over. -/
abbrev und : AV := .tup .un
def isUnd : AV → Bool
  | .tup .un => true
  | _ => false
/-- Does an operation depend on one that was passed over? -/
def offGuard (all : List Oper) (cur : List AV) (o : Oper) : Bool :=
  match o.guard with
  | some (j, _) => match (all[j]?).bind (·.dst) with
    | some d => isUnd (cur.getD d .dead)
    | none => false
  | none => false

/-- Ahead of an append of plain data a slice of own slices becomes a row. -/
def prepOf (o : Op) (cur : List AV) : Option (Nat × Nat) :=
  match o with
  | .call { callee := .builtin .append, args, .. } => match args.toList with
    | [.tmp x, y] => match cur.getD x .dead, opnd cur y with
      | .hnd .nst o, .dat _ _ => some (x, o)
      | _, _ => none
    | _ => none
  | _ => none
/-- Ahead of an append a slice that begins where a row begins is the row, cut. -/
def cutOf (o : Op) (cur : List AV) : Option (Nat × Nat × Nat) :=
  match o with
  | .call { callee := .builtin .append, args, .. } => match args.toList with
    | [.tmp x, _] => match cur.getD x .dead with
      | .sl o 0 n => some (x, o, n)
      | _ => none
    | _ => none
  | _ => none
def rowCut (x o n : Nat) (st : ASt) : ASt :=
  match ASt.obj st.heap o with
  | .row E s xs false => { st with cur := st.cur.set x (.row st.heap.length), heap := (st.heap ++ [AObj.row E s (xs.take n) false]).set o .gone }
  | _ => st
/-- A pointer to a variable that nobody writes from here on. -/
def ptrLet (x o : Nat) (st : ASt) : ASt :=
  match ASt.obj st.heap o with
  | .box (.dat s y) => { st with cur := st.cur.set x (.vptr s y), heap := st.heap.set o .gone }
  | _ => st
def prep (o : Op) (st : ASt) : ASt :=
  match prepOf o st.cur with
  | some (x, n) => nstRow x n st
  | none => match cutOf o st.cur with
    | some (x, ob, n) => rowCut x ob n st
    | none => st
def padO (H : List AObj) : Nat → List AObj
  | 0 => H
  | n + 1 => H ++ List.replicate (n + 1) .free
theorem padO_eq (H : List AObj) (n : Nat) : padO H n = H ++ List.replicate n .free := by
  cases n with
  | zero => exact (List.append_nil H).symm
  | succ n => rfl
def xopQ (Γ : Gam) (orc : Orcs) (call : CallTo R) (o : Oper) (st : ASt) (kk : ASt → Option R) (kx : TypeId → ASt → Option R) : Option R :=
  xop Γ orc call o st.heap.length { st with heap := padO st.heap (makes orc o.op) } kk kx
/-- The operations of a region, in the order of the text. -/
def xopP (Γ : Gam) (orc : Orcs) (call : CallTo R) (o : Oper) (st : ASt) (kk : ASt → Option R) (kx : TypeId → ASt → Option R) : Option R :=
  xopQ Γ orc call o (prep o.op st) kk kx
def xstep (Γ : Gam) (orc : Orcs) (call : CallTo R) (all : List Oper) (o : Oper) (next : ASt → (ASt → Option R) → (TypeId → ASt → Option R) → Option R) (st : ASt) (k : ASt → Option R) (kx : TypeId → ASt → Option R) : Option R :=
  match o.guard with
  | none => xopP Γ orc call o st (fun st' => next st' k kx) kx
  | some (j, want) => bif offGuard all st.cur o then next { st with cur := putDst st.cur o.dst und } k kx else
    match guardAt all st.cur j with
    | none => none
    | some (d, b) =>
      let way (v : Bool) : Option R :=
        let st1 := { st with cur := st.cur.set d (.dat .bool v) }
        if v == want then xopP Γ orc call o st1 (fun st' => next st' k kx) kx
        else next { st1 with cur := putDst st1.cur o.dst und } k kx
      bif b then way true else way false
def xops (Γ : Gam) (orc : Orcs) (call : CallTo R) (all : List Oper) (l : List Oper) : ASt → (ASt → Option R) → (TypeId → ASt → Option R) → Option R :=
  List.rec (fun st k _ => k st) (fun o _ ih => xstep Γ orc call all o ih) l
theorem xops_nil (Γ : Gam) (orc : Orcs) (call : CallTo R) (all : List Oper) (st : ASt) (k : ASt → Option R) (kx : TypeId → ASt → Option R) : xops Γ orc call all [] st k kx = k st := rfl
theorem xops_cons (Γ : Gam) (orc : Orcs) (call : CallTo R) (all : List Oper) (o : Oper) (rest : List Oper) (st : ASt) (k : ASt → Option R) (kx : TypeId → ASt → Option R) : xops Γ orc call all (o :: rest) st k kx =
    bif offGuard all st.cur o then xops Γ orc call all rest { st with cur := putDst st.cur o.dst und } k kx else
    match o.guard with
    | none => xopP Γ orc call o st (fun st' => xops Γ orc call all rest st' k kx) kx
    | some (j, want) => match guardAt all st.cur j with
      | none => none
      | some (d, b) =>
        let way (v : Bool) : Option R :=
          let st1 := { st with cur := st.cur.set d (.dat .bool v) }
          if v == want then xopP Γ orc call o st1 (fun st' => xops Γ orc call all rest st' k kx) kx
          else xops Γ orc call all rest { st1 with cur := putDst st1.cur o.dst und } k kx
        bif b then way true else way false := by
  show xstep Γ orc call all o (xops Γ orc call all rest) st k kx = _
  unfold xstep
  cases hg : o.guard with
  | none =>
    have : offGuard all st.cur o = false := by unfold offGuard; rw [hg]
    rw [this]; rfl
  | some p => obtain ⟨j, want⟩ := p; rfl

/-- What an operation looks at, and what it changes. -/
structure FP where
  rd : List Nat
  wr : List Nat
  deriving Inhabited
/-- The objects that an operation may look at. -/
def lookRefs (cur : List AV) (o : Op) : List Nat :=
  match o with
  | .move _ => []
  | .assign _ => []
  | o => o.operands.toList.flatMap fun x => (opnd cur x).refs
def fpOf (orc : Orcs) (o : Oper) (cur : List AV) (nid : Nat) (U : Upd) : FP :=
  ⟨lookRefs cur o.op ++ (List.range (makes orc o.op)).map (nid + ·), U.map (·.1)⟩
def FP.indep (a b : FP) : Bool := (a.wr.all fun x => !(b.rd.contains x || b.wr.contains x)) && b.wr.all fun x => !a.rd.contains x

/-- The same, where the order is drawn: what each operation touches is written down, and no body is run. -/
def xstepD (Γ : Gam) (orc : Orcs) (all : List Oper) (o : Oper) (next : Nat → List AV → List AObj → List FP → (List AV → List AObj → List FP → Option R) → Option R) (nid : Nat) (cur : List AV) (H : List AObj) (fps : List FP) (k : List AV → List AObj → List FP → Option R) : Option R :=
  let go (cur : List AV) : Option R := match astep true Γ orc o.op cur H nid with
    | some (c, v, U) => bif c then next (nid + makes orc o.op) (putDst cur o.dst v) (upd H U) (snocR fps (fpOf orc o cur nid U)) k else none
    | none => none
  match o.guard with
  | none => go cur
  | some (j, want) => bif offGuard all cur o then next (nid + makes orc o.op) (putDst cur o.dst und) H (snocR fps ⟨[], []⟩) k else
    match guardAt all cur j with
    | none => none
    | some (d, b) =>
      let way (v : Bool) : Option R :=
        let cur1 := cur.set d (.dat .bool v)
        if v == want then go cur1
        else next (nid + makes orc o.op) (putDst cur1 o.dst und) H (snocR fps ⟨[], []⟩) k
      bif b then way true else way false
def xopsD (Γ : Gam) (orc : Orcs) (all : List Oper) (l : List Oper) : Nat → List AV → List AObj → List FP → (List AV → List AObj → List FP → Option R) → Option R :=
  List.rec (fun _ cur H fps k => k cur H fps) (fun o _ ih => xstepD Γ orc all o ih) l
theorem xopsD_nil (Γ : Gam) (orc : Orcs) (all : List Oper) (nid : Nat) (cur : List AV) (H : List AObj) (fps : List FP) (k : List AV → List AObj → List FP → Option R) : xopsD Γ orc all [] nid cur H fps k = k cur H fps := rfl
theorem xopsD_cons (Γ : Gam) (orc : Orcs) (all : List Oper) (o : Oper) (rest : List Oper) (nid : Nat) (cur : List AV) (H : List AObj) (fps : List FP) (k : List AV → List AObj → List FP → Option R) : xopsD Γ orc all (o :: rest) nid cur H fps k =
    let go (cur : List AV) : Option R := match astep true Γ orc o.op cur H nid with
      | some (c, v, U) => bif c then xopsD Γ orc all rest (nid + makes orc o.op) (putDst cur o.dst v) (upd H U) (fps ++ [fpOf orc o cur nid U]) k else none
      | none => none
    bif offGuard all cur o then xopsD Γ orc all rest (nid + makes orc o.op) (putDst cur o.dst und) H (fps ++ [⟨[], []⟩]) k else
    match o.guard with
    | none => go cur
    | some (j, want) => match guardAt all cur j with
      | none => none
      | some (d, b) =>
        let way (v : Bool) : Option R :=
          let cur1 := cur.set d (.dat .bool v)
          if v == want then go cur1
          else xopsD Γ orc all rest (nid + makes orc o.op) (putDst cur1 o.dst und) H (fps ++ [⟨[], []⟩]) k
        bif b then way true else way false := by
  show xstepD Γ orc all o (xopsD Γ orc all rest) nid cur H fps k = _
  unfold xstepD
  simp only [snocR_eq]
  cases hg : o.guard with
  | none =>
    have : offGuard all cur o = false := by unfold offGuard; rw [hg]
    simp only [this, cond_false]
  | some p => obtain ⟨j, want⟩ := p; rfl

/-- Slots that an operation looks at. -/
def looksAt (all : List Oper) (o : Oper) : List Tmp :=
  (o.op.operands.toList.filterMap fun | .tmp t => some t | _ => none) ++
  (match o.guard with
   | some (g, _) => ((all[g]?).bind (·.dst)).toList
   | none => [])
def apart (all : List Oper) (x y : Oper) : Bool :=
  (match x.dst with
   | some d => !(looksAt all y).contains d && y.dst != some d
   | none => true) &&
  (match y.dst with
   | some d => !(looksAt all x).contains d
   | none => true)
/-- For each operation those that stand before it in whatever order, as bits. -/
def befores : List Oper → List Nat → List Nat
  | [], acc => acc
  | o :: r, acc => befores r (acc ++ [o.after.toList.foldl (fun s e => if Region.binds .any e then s ||| 2 ^ e.on ||| acc.getD e.on 0 else s) 0])
/-- Whatever two of the first operations may change places, do not touch each other. -/
def freePairs (b : Nat) (bs : List Nat) : List (Nat × Nat) := (List.range b).flatMap fun j => ((List.range j).filter fun i => !(bs.getD j 0).testBit i).map fun i => (i, j)
def indepTo (b : Nat) (ops : List Oper) (bs : List Nat) (fps : List FP) : Bool :=
  ((freePairs b bs).all fun p => apart ops (ops.getD p.1 default) (ops.getD p.2 default)) && (freePairs b bs).all fun p => (nthR default fps p.1).indep (nthR default fps p.2)
theorem indepTo_pair {b : Nat} {ops : List Oper} {bs : List Nat} {fps : List FP} (h : indepTo b ops bs fps = true) {i j : Nat} (hij : i < j) (hj : j < b) (hb : (bs.getD j 0).testBit i = false) :
    apart ops (ops.getD i default) (ops.getD j default) = true ∧ (fps.getD i default).indep (fps.getD j default) = true := by
  have hm : (i, j) ∈ freePairs b bs := by
    unfold freePairs
    rw [List.mem_flatMap]
    refine ⟨j, List.mem_range.2 hj, List.mem_map.2 ⟨i, ?_, rfl⟩⟩
    rw [List.mem_filter]
    exact ⟨List.mem_range.2 hij, by rw [hb]; rfl⟩
  unfold indepTo at h
  rw [Bool.and_eq_true] at h
  have h2 := List.all_eq_true.1 h.2 _ hm
  rw [nthR_eq, nthR_eq] at h2
  exact ⟨List.all_eq_true.1 h.1 _ hm, h2⟩
/-- The edges that bind lead back. -/
def edgesOk (ops : List Oper) : Bool :=
  (List.range ops.length).all fun j =>
    (ops.getD j default).after.toList.all fun e => !Region.binds .any e || decide (e.on < j)

/-- Is it the run of a body, by the text? -/
def bodyOp (orc : Orcs) (o : Oper) : Bool :=
  match o.op with
  | .call { callee := .value (.func g), .. } => (orc g).isNone
  | _ => false
/-- What may come next. -/
def readyL (ops : List Oper) (listed : List Bool) : List Nat :=
  (List.range ops.length).filter fun i => !listed.getD i true && (ops.getD i default).after.toList.all fun e => !Region.binds .any e || listed.getD e.on false
/-- All orders of a region. -/
def xopsAny (Γ : Gam) (orc : Orcs) (call : CallTo R) (all : List Oper) : Nat → List Bool → ASt → (ASt → Option R) → (TypeId → ASt → Option R) → Option R
  | 0, listed, st, k, _ => bif (readyL all listed).isEmpty then k st else none
  | n + 1, listed, st, k, kx =>
    bif (readyL all listed).isEmpty then k st
    else allWays (fun i => xops Γ orc call all [all.getD i default] st (fun st' => xopsAny Γ orc call all n (listed.set i true) st' k kx) kx) (readyL all listed)
/-- Is the callee the value of a slot? -/
def tmpCall (o : Oper) : Bool :=
  match o.op with
  | .call { callee := .value (.tmp _), .. } => true
  | _ => false
/-- From here on there is one order: the operation stands behind all others, and each further one behind the one before it. -/
def tailOk (b : Nat) (ops : List Oper) : Bool :=
  decide (b < ops.length) && ((List.range b).all fun i => ((befores ops []).getD b 0).testBit i) &&
  (List.range ops.length).all fun j => decide (j ≤ b) || (ops.getD j default).after.toList.any fun e => Region.binds .any e && decide (e.on + 1 = j)
/-- Is the last operation a call without results? -/
def voidLast (ops : List Oper) : Bool :=
  match ops.getLast? with
  | some { op := .call { callee := .value _, .. }, type := t, .. } => Nat.beq t 0
  | _ => false
/-- How many operations of a region are run in whatever order; those behind them have one order. -/
def cutAt (ops : List Oper) : Nat :=
  match ops.findIdx? tmpCall with
  | some b => bif tailOk b ops then b else ops.length
  | none => bif voidLast ops && tailOk (ops.length - 1) ops then ops.length - 1 else ops.length

/-- What is said to the machine of a function: which slots live on at a loop's head. -/
structure Hint where
  keep : Option (List Nat) := none
  keeps : List (Nat × List Nat) := []
  own : List (Nat × TypeId) := []
  stk : List (List Nat) := []
  dat : List (Nat × TypeId) := []
  fz : List (Nat × List Nat) := []
  ownb : List (Nat × Nat × TypeId) := []
  rg : List (Nat × List (Nat × TypeId)) := []
  rgb : List (Nat × List (Nat × Nat × TypeId)) := []
  bare : Bool := false
  deriving Inhabited

def keepOnly (ks : List Nat) (cur : List AV) : List AV := cur.zipIdx.map fun x => if ks.contains x.2 then x.1 else .dead

/-- The same for the callers' frames. -/
def keepStk : List (List Nat) → List (List AV) → List (List AV)
  | ks :: kss, f :: fs => keepOnly ks f :: keepStk kss fs
  | _, fs => fs

def loopN (body : ASt → (AExit → ASt → Option R) → Option R) (norm : ASt → ASt) : Nat → ASt → (AExit → ASt → Option R) → Option R
  | 0, _, _ => none
  | n + 1, st, k => body st fun e st' => match e with
    | .normal => loopN body norm n (norm st') k
    | e => k e (norm st')

end
end Go.AI

/- The abstract machine's run of code and of functions. -/
noncomputable section
namespace Go.AI
open Go Go.RowKit

def XObj.refs : XObj → List Nat
  | .lp _ _ fr _ => fr.flatMap AV.refs
  | .vec _ vs => vs.flatMap AV.refs
  | _ => []
def AObj.refs : AObj → List Nat
  | .box v => v.refs
  | .oth x => x.refs
  | _ => []
/-- The objects that can be reached, in the order in which they are met. -/
def reach (H : List AObj) : Nat → List Nat → List Nat → List Nat
  | 0, _, seen => seen
  | _, [], seen => seen
  | n + 1, o :: todo, seen => if seen.contains o then reach H n todo seen else reach H n ((ASt.obj H o).refs ++ todo) (seen ++ [o])
def AV.rename (f : Nat → Option Nat) : AV → AV
  | .row o => match f o with | some i => .row i | none => .dead
  | .sl o a n => match f o with | some i => .sl i a n | none => .dead
  | .ptr o p => match f o with | some i => .ptr i p | none => .dead
  | .pr a b => .pr (a.rename f) (b.rename f)
  | .fn g c => .fn g (c.rename f)
  | .hnd k o => match f o with | some i => .hnd k i | none => .dead
  | .mv g c => .mv g (c.rename f)
  | .tup a => .tup (a.rename f)
  | v => v
def XObj.rename (f : Nat → Option Nat) : XObj → XObj
  | .lp g key fr st => .lp g key (fr.map (AV.rename f)) st
  | .vec E vs => .vec E (vs.map (AV.rename f))
  | x => x
def AObj.rename (f : Nat → Option Nat) : AObj → AObj
  | .box v => .box (v.rename f)
  | .oth x => .oth (x.rename f)
  | o => o
def findIx (l : List Nat) (o : Nat) : Option Nat := l.idxOf? o
/-- The objects get new numbers; what cannot be reached is forgotten. -/
def ASt.renumber (st : ASt) (l : List Nat) : ASt :=
  { cur := st.cur.map (AV.rename (findIx l)), stk := st.stk.map (·.map (AV.rename (findIx l))), heap := l.map fun o => (ASt.obj st.heap o).rename (findIx l) }
def nodupB : List Nat → Bool
  | [] => true
  | x :: l => !l.contains x && nodupB l
def ASt.canon (st : ASt) : ASt :=
  let roots := st.cur.flatMap AV.refs ++ (st.stk.flatMap fun f => f.flatMap AV.refs)
  let l := reach st.heap (roots.length + 16 * st.heap.length + 16) roots []
  if nodupB l && roots.all (l.contains ·) && l.all (fun o => (ASt.obj st.heap o).refs.all (l.contains ·)) then st.renumber l else st

/-- A slot that holds nil becomes a row of the call's own that is empty. -/
def ownSlots (Γ : Gam) : List (Nat × TypeId) → ASt → ASt
  | [], st => st
  | (i, t) :: r, st => match st.cur.getD i .dead, Γ.elem t with
    | .nils, some (E, s) => ownSlots Γ r { st with cur := st.cur.set i (.row st.heap.length), heap := st.heap ++ [.row E s [] false] }
    | .emp, some (E, s) => ownSlots Γ r { st with cur := st.cur.set i (.row st.heap.length), heap := st.heap ++ [.row E s [] false] }
    | .nils, none => match Γ.nstOf t with
      | some (E, Ei, s) => ownSlots Γ r { st with cur := st.cur.set i (.hnd .nst st.heap.length), heap := st.heap ++ [.oth (.nst E Ei s [])] }
      | none => ownSlots Γ r st
    | _, _ => ownSlots Γ r st
/-- The shape of data of a type; of a slice type that is not taken as such, by its elements. -/
def datSch (Γ : Gam) (t : TypeId) : Option Sch :=
  match Γ.sch t with
  | some s => some s
  | none => (Γ.elemQ t).map fun x => .slc x.2
def vecLen (H : List AObj) (o : Nat) : Nat := match ASt.obj H o with
  | .oth (.vec _ vs) => vs.length
  | _ => 0
/-- A slot's value is seen as plain data; what lies behind it is frozen. -/
def datSlots (Γ : Gam) : List (Nat × TypeId) → ASt → ASt
  | [], st => st
  | (i, t) :: r, st => match st.cur.getD i .dead with
    | .hnd .nst o => datSlots Γ r (nstRow i o st)
    | .ptr o [] => datSlots Γ r (ptrLet i o st)
    | .hnd (.vec 0 n) o => datSlots Γ r (bif Nat.beq n (vecLen st.heap o) then vecRow Γ i o st else st)
    | _ => match datSch Γ t with
    | some s => match asPlain st.heap s (st.cur.getD i .dead) with
      | some (y, U) => datSlots Γ r { st with cur := st.cur.set i (.dat s y), heap := upd st.heap U }
      | none => datSlots Γ r st
    | none => datSlots Γ r st
/-- A nil slice in a field of a struct that a slot points to becomes a row of the call's own. -/
def ownBoxes (Γ : Gam) : List (Nat × Nat × TypeId) → ASt → ASt
  | [], st => st
  | (i, k, t) :: r, st => match st.cur.getD i .dead, Γ.elem t with
    | .ptr o [], some (E, s) => match ASt.obj st.heap o with
      | .box (.pr a b) => match (AV.pr a b).comp k, (AV.pr a b).lay.comp k, (AV.pr a b).setComp k (.row st.heap.length) with
        | .nils, some _, some (.pr a' b') => ownBoxes Γ r { st with heap := (st.heap ++ [AObj.row E s [] false]).set o (.box (.pr a' b')) }
        | _, _, _ => ownBoxes Γ r st
      | .box .nils => ownBoxes Γ r { st with heap := (st.heap ++ [AObj.row E s [] false]).set o (.box (.row st.heap.length)) }
      | _ => ownBoxes Γ r st
    | _, _ => ownBoxes Γ r st
def atHead (Γ : Gam) (ks : List Nat) (h : Hint) (st : ASt) : ASt :=
  (ownBoxes Γ h.ownb (ownSlots Γ h.own (datSlots Γ h.dat { st with cur := keepOnly ks st.cur, stk := keepStk h.stk st.stk }))).canon

/-- The slots that a region reads ahead of writing them: those that live on from region to region. -/
def tmpsOf (l : List Operand) : List Nat := l.filterMap fun | .tmp t => some t | _ => none
def regionReads : List Oper → List Nat → List Nat
  | [], _ => []
  | o :: r, w => (tmpsOf o.op.operands.toList).filter (!w.contains ·) ++ regionReads r (o.dst.toList ++ w)
def codeReads : Code → List Nat
  | .region _ ops _ => regionReads ops.toList []
  | .seq a b => codeReads a ++ codeReads b
  | .cond c a b => tmpsOf [c] ++ codeReads a ++ codeReads b
  | .block _ b => codeReads b
  | .loop b => codeReads b
  | .rangeFunc f _ a b => tmpsOf [f] ++ codeReads a ++ codeReads b
  | .scope b => codeReads b
  | _ => []
def resReads : ResultVar → Nat
  | .tmp t => t
  | .cell t _ => t
/-- The first region of a piece of code. -/
def firstRegion : Code → Option Nat
  | .region id _ _ => some id
  | .seq a b => (firstRegion a).or (firstRegion b)
  | .cond _ a b => (firstRegion a).or (firstRegion b)
  | .block _ b => firstRegion b
  | .loop b => (firstRegion b).map (· + 1000)
  | .scope b => firstRegion b
  | .rangeFunc _ _ a b => (firstRegion a).or (firstRegion b)
  | _ => none
def loopKey (body : Code) : Nat := (firstRegion body).getD 999
/-- The ranges over functions of a piece of code (not those within their bodies), by number. -/
def rangeKey (assign body : Code) : Nat := ((firstRegion assign).or (firstRegion body)).getD 999
def rangesOf : Code → List (Nat × Array Tmp × Code × Code)
  | .seq a b => rangesOf a ++ rangesOf b
  | .cond _ a b => rangesOf a ++ rangesOf b
  | .block _ b => rangesOf b
  | .loop b => rangesOf b
  | .rangeFunc _ ps a b => [(rangeKey a b, ps, a, b)]
  | _ => []
def codeOf (P : Program) (f : FuncId) : Code := ((P.funcs[f]?).bind (·.body)).getD .skip
def rangeAt (P : Program) (f : FuncId) (key : Nat) : Option (Array Tmp × Code × Code) := ((rangesOf (codeOf P f)).find? fun x => Nat.beq x.1 key).map (·.2)
/-- The slots that live on at one loop's head. -/
def keepAt (h : Hint) (key : Nat) (ks : List Nat) : List Nat := match h.keeps.lookup key with
  | some l => l
  | none => ks
/-- A map of own slices becomes a map of plain data. -/
def fzSlots : List Nat → ASt → ASt
  | [], st => st
  | i :: r, st => match st.cur.getD i .dead with
    | .hnd .map o => match ASt.obj st.heap o with
      | .oth (.mps k v _ ks s m none) => fzSlots r { st with heap := st.heap.set o (.oth (.mp k v ks (.slc s) m)) }
      | _ => fzSlots r st
    | _ => fzSlots r st
def fzAt (h : Hint) (key : Nat) : List Nat := match h.fz.lookup key with
  | some l => l
  | none => []
def rgAt (h : Hint) (key : Nat) : List (Nat × TypeId) := match h.rg.lookup key with
  | some l => l
  | none => []
def rgbAt (h : Hint) (key : Nat) : List (Nat × Nat × TypeId) := match h.rgb.lookup key with
  | some l => l
  | none => []
/-- What is done at a loop's head, and (from 5000 on) ahead of a region. -/
def atHeads (Γ : Gam) (ks : List Nat) (h : Hint) (key : Nat) (st : ASt) : ASt :=
  bif Nat.ble 5000 key then ownBoxes Γ (rgbAt h key) (datSlots Γ (rgAt h key) st) else bif h.bare then st else atHead Γ (keepAt h key ks) h (fzSlots (fzAt h key) st)
def keepOf (h : Hint) (fn : Func) (c : Code) : List Nat :=
  match h.keep with
  | some l => l
  | none => (codeReads c).eraseDups ++ fn.results.toList.map resReads

section
variable {R : Type}
/-- The place for the objects that a region makes. -/
def pad (orc : Orcs) (ops : List Oper) (H : List AObj) : List AObj := H ++ List.replicate (makesAll orc ops) .free
/-- A range over a function begins: the loop's record, and a frame that holds its yield function. -/
def rangeIn (me : FuncId) (key : Nat) (keep : List Nat) (st : ASt) : ASt :=
  { cur := [.hnd .yield st.heap.length], stk := st.cur :: st.stk, heap := st.heap ++ [.oth (.lp me key (keepOnly keep st.cur) .ready)] }
/-- It ends: the jump that a round has left is taken. -/
def rangeOut (st : ASt) (k : AExit → ASt → Option R) : Option R :=
  match st.cur, st.stk with
  | [.hnd .yield o], c0 :: stk => match ASt.obj st.heap o with
    | .oth (.lp _ _ _ .ready) => k .normal { cur := c0, stk := stk, heap := st.heap.set o .gone }
    | .oth (.lp _ _ _ (.done (.exit id))) => k (.exit id) { cur := c0, stk := stk, heap := st.heap.set o .gone }
    | .oth (.lp _ _ _ (.done .ret)) => k .ret { cur := c0, stk := stk, heap := st.heap.set o .gone }
    | _ => none
  | _, _ => none
def setAll : List AV → List Nat → List AV → List AV
  | cur, p :: ps, v :: vs => setAll (cur.set p v) ps vs
  | cur, _, _ => cur
/-- A round begins, its body begins, it ends. -/
def roundIn (o : Nat) (fr : List AV) (ps : List Nat) (args : List AV) (st : ASt) : ASt :=
  { cur := setAll fr ps args, stk := [.hnd .yield o] :: st.cur :: st.stk, heap := st.heap }
def roundSet (s s' : LSt) (st : ASt) : Option ASt :=
  match st.stk with
  | [.hnd .yield o] :: _ => match ASt.obj st.heap o with
    | .oth (.lp f key fr t) => if t = s then some { st with heap := st.heap.set o (.oth (.lp f key fr s')) } else none
    | _ => none
  | _ => none
def roundOut (e : AExit) (st : ASt) (kk : AV → ASt → Option R) : Option R :=
  match roundSet .busy (match e with | .normal => .ready | e => .done e) st with
  | some st' => match st'.stk with
    | _ :: c0 :: stk => kk (.dat .bool (match e with | .normal => true | _ => false)) { cur := c0, stk := stk, heap := st'.heap }
    | _ => none
  | none => none

def exec (Γ : Gam) (orc : Orcs) (call : CallTo R) (me : FuncId) (head : Nat → ASt → ASt) (F : Nat) : Code → ASt → (AExit → ASt → Option R) → Option R
  | .skip, st, k => k .normal st
  | .region id ops draw, st, k =>
    if draw then
      if edgesOk ops.toList then
        (fun st : ASt => bif (ops.toList.take (cutAt ops.toList)).any (bodyOp orc) then xopsAny Γ orc call ops.toList ops.toList.length (List.replicate ops.toList.length false) st (k .normal) (fun t => k (.panic t)) else
          xopsD Γ orc ops.toList (ops.toList.take (cutAt ops.toList)) st.heap.length st.cur (pad orc (ops.toList.take (cutAt ops.toList)) st.heap) [] fun cur H fps =>
          if indepTo (cutAt ops.toList) ops.toList (befores ops.toList []) fps then xops Γ orc call ops.toList (ops.toList.drop (cutAt ops.toList)) { st with cur := cur, heap := H } (k .normal) (fun t => k (.panic t)) else none) (head (5000 + id) st)
      else none
    else xops Γ orc call ops.toList ops.toList (head (5000 + id) st) (k .normal) (fun t => k (.panic t))
  | .seq a b, st, k => exec Γ orc call me head F a st fun e st' => match e with
    | .normal => exec Γ orc call me head F b st' k
    | e => k e st'
  | .cond c a b, st, k => match opnd st.cur c with
    | .dat .bool x => bif x then exec Γ orc call me head F a st k else exec Γ orc call me head F b st k
    | _ => none
  | .block id body, st, k => exec Γ orc call me head F body st fun e st' => match e with
    | .exit i => if i = id then k .normal st' else k (.exit i) st'
    | e => k e st'
  | .loop body, st, k => loopN (fun st k => exec Γ orc call me head F body st k) (head (loopKey body)) F (head (loopKey body) st) k
  | .exit id, st, k => k (.exit id) st
  | .ret, st, k => k .ret st
  | .label _, st, k => k .normal st
  | .rangeFunc f _ assign body, st, k => match opnd st.cur f with
    | .fn g caps => match unchain caps with
      | some cs => if (rangesOf assign).isEmpty && (rangesOf body).isEmpty then
          call (.inl g) (.hnd .yield st.heap.length :: cs) (rangeIn me (rangeKey assign body) (codeReads assign ++ codeReads body) st) (fun _ st' => rangeOut st' k) (fun _ _ => none)
        else none
      | none => none
    | _ => none
  | _, _, _ => none

def resAV (Γ : Gam) (H : List AObj) (cur : List AV) : ResultVar → Option AV
  | .tmp t => some (cur.getD t .dead)
  | .cell a t => match aLoad Γ t (cur.getD a .dead) H with
    | some (true, v, []) => some v
    | _ => none
def resAVs (Γ : Gam) (H : List AObj) (cur : List AV) : List ResultVar → Option (List AV)
  | [] => some []
  | r :: rs => match resAV Γ H cur r, resAVs Γ H cur rs with
    | some v, some vs => if v.isTup then none else some (v :: vs)
    | _, _ => none

/-- The run of a function's body. -/
def runBody (Γ : Gam) (orc : Orcs) (call : CallTo R) (me : FuncId) (h : Hint) (F : Nat) (fn : Func) (args : List AV) (st : ASt) (kk : List AV → ASt → Option R) (kx : TypeId → ASt → Option R) : Option R :=
  match fn.body with
  | none => none
  | some c =>
    if args.length ≤ fn.ntmps then
      exec Γ orc call me (atHeads Γ (keepOf h fn c) h) F c { cur := args ++ List.replicate (fn.ntmps - args.length) .dead, stk := st.cur :: st.stk, heap := st.heap } fun e st' =>
        let fin : Option R := match st'.stk with
          | c0 :: stk => match resAVs Γ st'.heap st'.cur fn.results.toList with
            | some vs => kk vs { cur := c0, stk := stk, heap := st'.heap }
            | none => none
          | [] => none
        match e with
        | .exit _ => none
        | .normal => fin
        | .ret => fin
        | .panic t => match st'.stk with
          | c0 :: stk => kx t { cur := c0, stk := stk, heap := st'.heap }
          | [] => none
    else none
/-- A function that begins by deferring a closure which recovers: the closure, how much it captures, at which panic, and what it stores then
(through which pointer, of which type; nothing: a nil slice). -/
structure Rcv where
  clo : FuncId
  ncap : Nat
  pan : TypeId
  sto : List (Nat × TypeId × Option Bool)
def rcvAV : Option Bool → AV
  | none => .nils
  | some b => .dat .bool b
def recStore (Γ : Gam) : List (Nat × TypeId × Option Bool) → List AV → List AObj → Option (List AObj)
  | [], _, H => some H
  | (i, t, x) :: r, cs, H => match aStore Γ t (cs.getD i .dead) (rcvAV x) H with
    | some (true, _, U) => recStore Γ r cs (upd H U)
    | _ => none
def deferOf : Code → Option (Code × Nat × Array Oper × Oper × Oper × Code)
  | .seq a (.seq (.region id ops false) b) => match ops.toList with
    | [o, d] => match o.guard, d.guard, d.dst with
      | none, none, none => some (a, id, ops, o, d, b)
      | _, _, _ => none
    | _ => none
  | _ => none
theorem deferOf_is {c a b : Code} {id : Nat} {ops : Array Oper} {o d : Oper} (h : deferOf c = some (a, id, ops, o, d, b)) : c = .seq a (.seq (.region id ops false) b) ∧ ops.toList = [o, d] ∧ o.guard = none ∧ d.guard = none ∧ d.dst = none := by
  unfold deferOf at h
  split at h
  · rename_i a' id' ops' b'
    split at h
    · rename_i o' d' hl
      split at h
      · rename_i h1 h2 h3
        cases h
        exact ⟨rfl, hl, h1, h2, h3⟩
      · cases h
    · cases h
  · cases h
/-- What is deferred. -/
def deferClo (d : Oper) (cur : List AV) : Option (FuncId × List AV) :=
  match d.op with
  | .defer { callee := .value f, args, .. } => if args.isEmpty then match opnd cur f with
      | .fn g caps => (unchain caps).map fun cs => (g, cs)
      | _ => none
    else none
  | _ => none
def recEnd (Γ : Gam) (fn : Func) (H : List AObj) (cur : List AV) (c0 : List AV) (stk : List (List AV)) (kk : List AV → ASt → Option R) : Option R :=
  match resAVs Γ H cur fn.results.toList with
  | some vs => kk vs { cur := c0, stk := stk, heap := H }
  | none => none
def recFin (Γ : Gam) (fn : Func) (rc : Rcv) (kk : List AV → ASt → Option R) (e : AExit) (st : ASt) : Option R :=
  match st.stk with
  | cs :: c0 :: stk => match e with
    | .normal => recEnd Γ fn st.heap st.cur c0 stk kk
    | .ret => recEnd Γ fn st.heap st.cur c0 stk kk
    | .panic t => bif Nat.beq t rc.pan then match recStore Γ rc.sto cs st.heap with
        | some H => recEnd Γ fn H st.cur c0 stk kk
        | none => none
      else none
    | .exit _ => none
  | _ => none
/-- The run of its body. -/
def runRec (Γ : Gam) (orc : Orcs) (call : CallTo R) (ex : Code → ASt → (AExit → ASt → Option R) → Option R) (fn : Func) (c : Code) (rc : Rcv) (args : List AV) (st : ASt) (kk : List AV → ASt → Option R) : Option R :=
  match deferOf c with
  | none => none
  | some (a, _, _, o, d, b) =>
    if args.length ≤ fn.ntmps then
      ex a { cur := args ++ List.replicate (fn.ntmps - args.length) .dead, stk := st.cur :: st.stk, heap := st.heap } fun e st1 => match e with
        | .normal => xopP Γ orc call o st1 (fun st2 => match deferClo d st2.cur with
            | some (g, cs) => bif Nat.beq g rc.clo && Nat.beq cs.length rc.ncap then ex b { st2 with stk := cs :: st2.stk } (recFin Γ fn rc kk) else none
            | none => none) (fun _ _ => none)
        | _ => none
    else none
/-- The run of a round. -/
def runRound (P : Program) (Γ : Gam) (orc : Orcs) (call : CallTo R) (hint : FuncId → Hint) (F : Nat) (o : Nat) (args : List AV) (st : ASt) (kk : AV → ASt → Option R) : Option R :=
  match ASt.obj st.heap o with
  | .oth (.lp f key fr .ready) => match P.funcs[f]?, rangeAt P f key with
    | some fn, some (ps, assign, body) => if args.length = ps.size ∧ args.all (fun v => !v.isTup) = true then
        let hd := atHeads Γ (keepOf (hint f) fn (codeOf P f)) (hint f)
        exec Γ orc call f hd F assign (roundIn o fr ps.toList args st) fun e st' => match e with
          | .normal => match roundSet .ready .busy st' with
            | some st2 => exec Γ orc call f hd F body st2 fun e st3 => match e with
              | .panic _ => none
              | e => roundOut e st3 kk
            | none => none
          | _ => none
      else none
    | _, _ => none
  | _ => none

/-- What is given of a program: its types, its contracts, its hints. -/
structure Book where
  Γ : Gam
  orc : Orcs
  hint : FuncId → Hint := fun _ => {}
  rcv : FuncId → Option Rcv := fun _ => none

def acall (P : Program) (B : Book) (F : Nat) : Nat → CallTo R
  | 0 => fun _ _ _ _ _ => none
  | d + 1 => fun g args st kk kx => match g with
    | .inl f => match P.funcs[f]? with
      | some fn => match B.rcv f, fn.body with
        | some rc, some c => runRec B.Γ B.orc (acall P B F d) (exec B.Γ B.orc (acall P B F d) f (atHeads B.Γ (keepOf (B.hint f) fn c) (B.hint f)) F) fn c rc args st (fun vs st' => kk (packed vs) st')
        | _, _ => runBody B.Γ B.orc (acall P B F d) f (B.hint f) F fn args st (fun vs st' => kk (packed vs) st') kx
      | none => none
    | .inr o => runRound P B.Γ B.orc (acall P B F d) B.hint F o args st kk
end

/-- The arguments of a run. -/
def ofArgs : List BV → List AObj → List AV × List AObj
  | [], H => ([], H)
  | .d s x :: bs, H => (.dat s x :: (ofArgs bs H).1, (ofArgs bs H).2)
  | .o E s xs :: bs, H => (.row H.length :: (ofArgs bs (H ++ [.row E s xs false])).1, (ofArgs bs (H ++ [.row E s xs false])).2)
  | .f g :: bs, H => (.fn g .un :: (ofArgs bs H).1, (ofArgs bs H).2)
  | .p s x :: bs, H => (.vptr s x :: (ofArgs bs H).1, (ofArgs bs H).2)
/-- The run of a function between boundary values. -/
def runFn {R : Type} (P : Program) (B : Book) (F d : Nat) (f : FuncId) (args : List BV) (ms : List PM) (kend : List BV → Option R) : Option R :=
  match P.funcs[f]? with
  | some fn => runBody B.Γ B.orc (acall P B F d) f (B.hint f) F fn (ofArgs args []).1 { cur := [], stk := [], heap := (ofArgs args []).2 } (fun rs st =>
      match toArgs false st.heap ms rs with
      | some (bs, U) => if onceOnly U rs then kend bs else none
      | none => none) (fun _ _ => none)
  | none => none

end Go.AI
