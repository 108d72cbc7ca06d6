/- Texts of the proof, joined: A1. Names of our own are shortened by program; the long ones stand in wip/. -/
import Derived.WalkKit
import Derived.ProofKit
namespace Go.AI
open Go Go.RowKit
inductive Sch where
 | int (k : IntKind)
 | bool
 | str
 | slc (s : Sch)
 | arr (n : Nat) (s : Sch)
 | pair (a b : Sch)
 | unit
 deriving DecidableEq, Inhabited
@[reducible] def IT : IntKind → Type
 | .u8 => UInt8
 | .u32 => UInt32
 | _ => Int
def toI : (k : IntKind) → IT k → Int
 | .u8, x => (x.toNat : Int)
 | .u32, x => (x.toNat : Int)
 | .i8, x => x
 | .i16, x => x
 | .i32, x => x
 | .i64, x => x
 | .u16, x => x
 | .u64, x => x
def ofI : (k : IntKind) → Int → IT k
 | .u8, x => UInt8.ofNat x.toNat
 | .u32, x => UInt32.ofNat x.toNat
 | .i8, x => x
 | .i16, x => x
 | .i32, x => x
 | .i64, x => x
 | .u16, x => x
 | .u64, x => x
@[reducible] def Sch.T : Sch → Type
 | .int k => IT k
 | .bool => Bool
 | .str => List UInt8
 | .slc s => List s.T
 | .arr _ s => List s.T
 | .pair a b => a.T × b.T
 | .unit => Unit
def Sch.cells : Sch → Nat
 | .arr n s => n * s.cells
 | .pair a b => a.cells + b.cells
 | .unit => 0
 | _ => 1
def Sch.agg : Sch → Bool
 | .arr _ _ => true
 | .pair _ _ => true
 | .unit => true
 | _ => false
def Sch.dflt : (s : Sch) → s.T
 | .int k => ofI k 0
 | .bool => false
 | .str => []
 | .slc _ => []
 | .arr n s => List.replicate n s.dflt
 | .pair a b => (a.dflt, b.dflt)
 | .unit => ()
def Jbs {α : Type} (R : α → List Value → Prop) : List α → List Value → Prop
 | [], cs => cs = []
 | x :: xs, cs => ∃ c r, cs = c ++ r ∧ R x c ∧ Jbs R xs r
def Jfe (w : World) (ad : Addr) (L : List Value) : Prop := ∀ j u, L[j]? = some u → w.cell? (ad.add j) = some u
def Jau (w : World) (A : Nat → Prop) : (s : Sch) → s.T → List Value → Prop
 | .int k, x, cs => cs = [.int k (toI k x)] ∧ (Lit.int k (toI k x)).wf = true
 | .bool, x, cs => cs = [.bool x]
 | .str, x, cs => cs = [.string ⟨x.toArray⟩] ∧ x.length ≤ maxLen
 | .slc s, xs, cs => ∃ a cap, cs = [.slice a xs.length cap] ∧ xs.length ≤ cap ∧ cap ≤ maxLen ∧
   (xs = [] ∨ ∃ ad L, a = some ad ∧ ad.block < w.heap.size ∧ ¬ A ad.block ∧ Jbs (Jau w A s) xs L ∧ Jfe w ad L)
 | .arr n s, xs, cs => xs.length = n ∧ Jbs (Jau w A s) xs cs
 | .pair a b, x, cs => ∃ c r, cs = c ++ r ∧ Jau w A a x.1 c ∧ Jau w A b x.2 r
 | .unit, _, cs => cs = []
section Jbs
variable {α : Type} {R : α → List Value → Prop} {n : Nat}
theorem Jbs.length (hR : ∀ x c, R x c → c.length = n) : ∀ {xs : List α} {L : List Value}, Jbs R xs L → L.length = xs.length * n
 | [], L, h => by simp [Jbs] at h; simp [h]
 | x :: xs, L, h => by
  obtain ⟨c, r, rfl, hc, hr⟩ := h
  simp only [List.length_append, hR x c hc, Jbs.length hR hr, List.length_cons, Nat.add_mul, Nat.one_mul]
  omega
theorem Jbs.mono {R' : α → List Value → Prop} (hR : ∀ x c, R x c → R' x c) : ∀ {xs : List α} {L : List Value}, Jbs R xs L → Jbs R' xs L
 | [], _, h => h
 | _ :: _, _, ⟨c, r, e, hc, hr⟩ => ⟨c, r, e, hR _ _ hc, Jbs.mono hR hr⟩
theorem Jbs.append : ∀ {xs ys : List α} {L M : List Value}, Jbs R xs L → Jbs R ys M → Jbs R (xs ++ ys) (L ++ M)
 | [], _, _, _, h, k => by simp [Jbs] at h; simpa [h] using k
 | _ :: _, _, _, _, ⟨c, r, e, hc, hr⟩, k => ⟨c, r ++ _, by simp [e], hc, Jbs.append hr k⟩
theorem Jbs.split : ∀ {xs ys : List α} {L : List Value}, Jbs R (xs ++ ys) L → ∃ M N, L = M ++ N ∧ Jbs R xs M ∧ Jbs R ys N
 | [], _, L, h => ⟨[], L, by simp, by simp [Jbs], h⟩
 | _ :: _, _, _, ⟨c, r, e, hc, hr⟩ => by
  obtain ⟨M, N, rfl, hM, hN⟩ := Jbs.split hr
  exact ⟨c ++ M, N, by simp [e], ⟨c, M, rfl, hc, hM⟩, hN⟩
theorem Jbs.take (hR : ∀ x c, R x c → c.length = n) {xs : List α} {L : List Value} (h : Jbs R xs L) (k : Nat) : Jbs R (xs.take k) (L.take (k * n)) := by
 rw [← List.take_append_drop k xs] at h
 obtain ⟨M, N, rfl, hM, hN⟩ := Jbs.split h
 have hl := Jbs.length hR hM
 by_cases hk : k ≤ xs.length
 ·have : M.length = k * n := by rw [hl, List.length_take, Nat.min_eq_left hk]
  rw [← this, List.take_left]; exact hM
 ·have hN' : xs.drop k = [] := List.drop_eq_nil_of_le (by omega)
  rw [hN'] at hN
  simp [Jbs] at hN
  subst hN
  have : M.length ≤ k * n := by rw [hl, List.length_take]; exact Nat.mul_le_mul_right _ (by omega)
  rw [List.append_nil, List.take_of_length_le this]; exact hM
theorem Jbs.drop (hR : ∀ x c, R x c → c.length = n) {xs : List α} {L : List Value} (h : Jbs R xs L) (k : Nat) : Jbs R (xs.drop k) (L.drop (k * n)) := by
 rw [← List.take_append_drop k xs] at h
 obtain ⟨M, N, rfl, hM, hN⟩ := Jbs.split h
 have hl := Jbs.length hR hM
 by_cases hk : k ≤ xs.length
 ·have : M.length = k * n := by rw [hl, List.length_take, Nat.min_eq_left hk]
  rw [← this, List.drop_left]; exact hN
 ·have hN' : xs.drop k = [] := List.drop_eq_nil_of_le (by omega)
  rw [hN'] at hN ⊢
  simp [Jbs] at hN
  subst hN
  have : M.length ≤ k * n := by rw [hl, List.length_take]; exact Nat.mul_le_mul_right _ (by omega)
  rw [List.append_nil, List.drop_eq_nil_of_le this]; simp [Jbs]
theorem Jbs.one {x : α} {c : List Value} (h : R x c) : Jbs R [x] c := ⟨c, [], by simp, h, rfl⟩
theorem Jbs.of_one {x : α} {c : List Value} (h : Jbs R [x] c) : R x c := by
 obtain ⟨c', r, rfl, hc, hr⟩ := h
 simp [Jbs] at hr; subst hr; simpa using hc
theorem Jbs.at_ (hR : ∀ x c, R x c → c.length = n) {xs : List α} {L : List Value} (h : Jbs R xs L) {i : Nat} {x : α} (hi : xs[i]? = some x) :
  R x ((L.drop (i * n)).take n) := by
 have hlt : i < xs.length := by
  rcases Nat.lt_or_ge i xs.length with h' | h'
  ·exact h'
  ·rw [List.getElem?_eq_none h'] at hi; cases hi
 have h1 := Jbs.take hR (Jbs.drop hR h i) 1
 have e : (xs.drop i).take 1 = [x] := by
  rw [List.drop_eq_getElem_cons hlt]
  rw [List.getElem?_eq_getElem hlt] at hi
  injection hi with hi
  simp [hi]
 rw [e, Nat.one_mul] at h1
 exact Jbs.of_one h1
theorem Jbs.set (hR : ∀ x c, R x c → c.length = n) {xs : List α} {L : List Value} (h : Jbs R xs L) {i : Nat} (hi : i < xs.length) {y : α} {c : List Value} (hy : R y c) :
  Jbs R (xs.set i y) (L.take (i * n) ++ c ++ L.drop (i * n + n)) := by
 have h1 := Jbs.take hR h i
 have h2 := Jbs.drop hR h (i + 1)
 rw [List.set_eq_take_append_cons_drop, if_pos hi, List.append_assoc]
 refine Jbs.append h1 ⟨c, _, rfl, hy, ?_⟩
 rwa [Nat.add_mul, Nat.one_mul] at h2
theorem Jbs.cells {P : Value → Prop} (hR : ∀ x c, R x c → ∀ u ∈ c, P u) : ∀ {xs : List α} {L : List Value}, Jbs R xs L → ∀ u ∈ L, P u
 | [], L, h => by simp [Jbs] at h; simp [h]
 | x :: xs, L, h => by
  obtain ⟨c, r, rfl, hc, hr⟩ := h
  intro u hu
  rcases List.mem_append.1 hu with hu | hu
  ·exact hR x c hc u hu
  ·exact Jbs.cells hR hr u hu
end Jbs
theorem Jau.length {w : World} {A : Nat → Prop} : ∀ (s : Sch) {x : s.T} {c : List Value}, Jau w A s x c → c.length = s.cells
 | .int k, _, _, h => by obtain ⟨rfl, _⟩ := h; rfl
 | .bool, _, _, h => by simp [Jau] at h; simp [h, Sch.cells]
 | .str, _, _, h => by obtain ⟨rfl, _⟩ := h; rfl
 | .slc s, _, _, h => by obtain ⟨a, cap, rfl, _⟩ := h; rfl
 | .arr n s, xs, c, h => by
  obtain ⟨hl, hr⟩ := h
  rw [Jbs.length (fun x c => Jau.length s) hr, hl]; rfl
 | .pair a b, x, _, h => by
  obtain ⟨c, r, rfl, h1, h2⟩ := h
  rw [List.length_append, Jau.length a h1, Jau.length b h2]; rfl
 | .unit, _, _, h => by simp [Jau] at h; simp [h, Sch.cells]
theorem Jau.oneCell {w : World} {A : Nat → Prop} : ∀ (s : Sch) {x : s.T} {c : List Value}, Jau w A s x c → ∀ u ∈ c, u.oneCell' = true
 | .int k, _, _, h => by obtain ⟨rfl, _⟩ := h; simp [Value.oneCell']
 | .bool, _, _, h => by simp [Jau] at h; simp [h, Value.oneCell']
 | .str, _, _, h => by obtain ⟨rfl, _⟩ := h; simp [Value.oneCell']
 | .slc s, _, _, h => by obtain ⟨a, cap, rfl, _⟩ := h; simp [Value.oneCell']
 | .arr n s, xs, c, h => Jbs.cells (fun x c hc => Jau.oneCell s hc) h.2
 | .pair a b, x, _, h => by
  obtain ⟨c, r, rfl, h1, h2⟩ := h
  intro u hu
  rcases List.mem_append.1 hu with hu | hu
  ·exact Jau.oneCell a h1 u hu
  ·exact Jau.oneCell b h2 u hu
 | .unit, _, _, h => by simp [Jau] at h; simp [h]
structure Jd1 (A : Nat → Prop) (w w' : World) : Prop where
 size : w.heap.size ≤ w'.heap.size
 block : ∀ b, b < w.heap.size → ¬ A b → w'.heap[b]? = w.heap[b]?
theorem Addr.add_block (a : Addr) (j : Nat) : (a.add j).block = a.block := by unfold Addr.add; split <;> rfl
theorem Jfe.keeps {A : Nat → Prop} {w w' : World} (hk : Jd1 A w w') {ad : Addr} {L : List Value} (hb : ad.block < w.heap.size) (hA : ¬ A ad.block) (h : Jfe w ad L) : Jfe w' ad L := by
 intro j u hu
 rw [World.cell?_of_block (w := w) (by rw [Addr.add_block]; exact hk.block _ hb hA)]
 exact h j u hu
theorem Jau.keeps {A A' : Nat → Prop} {w w' : World} (hk : Jd1 A w w') (hA : ∀ b, b < w.heap.size → A' b → A b) :
  ∀ (s : Sch) {x : s.T} {c : List Value}, Jau w A s x c → Jau w' A' s x c
 | .int k, _, _, h => h
 | .bool, _, _, h => h
 | .str, _, _, h => h
 | .slc s, xs, _, h => by
  obtain ⟨a, cap, rfl, h1, h2, h3⟩ := h
  refine ⟨a, cap, rfl, h1, h2, h3.imp id ?_⟩
  rintro ⟨ad, L, rfl, hb, hn, hr, hc⟩
  exact ⟨ad, L, rfl, Nat.lt_of_lt_of_le hb hk.size, fun h => hn (hA _ hb h), Jbs.mono (fun x c => Jau.keeps hk hA s) hr, hc.keeps hk hb hn⟩
 | .arr n s, xs, c, h => ⟨h.1, Jbs.mono (fun x c => Jau.keeps hk hA s) h.2⟩
 | .pair a b, x, _, h => by
  obtain ⟨c, r, rfl, h1, h2⟩ := h
  exact ⟨c, r, rfl, Jau.keeps hk hA a h1, Jau.keeps hk hA b h2⟩
 | .unit, _, _, h => h
end Go.AI
namespace Go.AI
open Go Go.RowKit
inductive HK where
 | yield
 | map
 deriving DecidableEq, Inhabited
def HK.mk : HK → Nat → Value
 | .yield, g => .func (.yield g) #[] #[]
 | .map, g => .map (some g)
inductive Jhi where
 | normal
 | exit (id : Nat)
 | ret
 | panic (t : TypeId)
 deriving DecidableEq, Inhabited
inductive LSt where
 | ready
 | busy
 | done (e : Jhi)
 deriving DecidableEq, Inhabited
inductive AV where
 /-- plain data, whose memory nobody writes -/
 | dat (s : Sch) (x : s.T)
 /-- a slice, as dat, whose capacity is its length -/
 | slx (s : Sch) (xs : List s.T)
 /-- the nil slice -/
 | nils
 /-- a slice of capacity 0 -/
 | emp
 /-- all of a row of the call's own -/
 | row (o : Nat)
 /-- a part of an object's elements -/
 | sl (o off len : Nat)
 /-- a pointer to memory that nobody writes -/
 | vptr (s : Sch) (x : s.T)
 /-- a pointer into an object -/
 | ptr (o : Nat) (p : List Nat)
 | pr (a b : AV)
 | un
 | fn (f : FuncId) (caps : AV)
 | nilfn
 /-- a handle of an object -/
 | hnd (k : HK) (o : Nat)
 /-- a function with its first arguments -/
 | mv (f : FuncId) (fst : AV)
 /-- an interface that holds an empty struct -/
 | ifc (t : TypeId)
 /-- the nil pointer, the nil map -/
 | nilp
 | nilm
 /-- an array of functions, and one of them -/
 | fns (fs : List (Option FuncId))
 | fsel (fs : List (Option FuncId)) (i : Nat)
 /-- a slice of which only is known whether it is nil, and its length -/
 | pk (b : Bool) (n : Nat)
 | tup (a : AV)
 | dead
 deriving Inhabited
inductive K52 where
 | lp (f : FuncId) (key : Nat) (fr : List AV) (st : LSt)
 | sit (s : List UInt8) (pos : Nat)
 | mp (k v : TypeId) (ks vs : Sch) (m : List (ks.T × vs.T))
 /-- a map whose values are slices of its own, of which one may be lent -/
 | mps (k v E : TypeId) (ks s : Sch) (m : List (ks.T × List s.T)) (lent : Option ks.T)
 deriving Inhabited
def K52.isFam : K52 → Bool
 | .mps _ _ _ _ _ _ _ => true
 | _ => false
inductive Jaj where
 | row (E : TypeId) (s : Sch) (xs : List s.T) (fz : Bool)
 | box (v : AV)
 | oth (x : K52)
 | gone
 | free
 deriving Inhabited
def Jaj.isFam : Jaj → Bool
 | .oth x => x.isFam
 | _ => false
def Jaj.live : Jaj → Bool
 | .row _ _ _ _ => true
 | .box _ => true
 | .oth _ => true
 | _ => false
structure ASt where
 cur : List AV
 stk : List (List AV)
 heap : List Jaj
 deriving Inhabited
inductive TK where
 | other
 | func
 | slice (e : TypeId)
 | array (n : Nat) (e : TypeId)
 | struct (fs : List (Nat × TypeId))
 | ptr (e : TypeId)
 | map (k v : TypeId)
 deriving DecidableEq, Inhabited
structure TI where
 kind : TK
 cells : Nat
 sch : Option Sch
 eq : Bool
 deriving DecidableEq, Inhabited
def TI.agg (t : TI) : Bool :=
 match t.kind with
 | .array _ _ => true
 | .struct _ => true
 | _ => false
def Jd6 {s t : Sch} (h : s = t) (x : s.T) : t.T := h ▸ x
def AV.agg : AV → Bool
 | .dat s _ => s.agg
 | .pr _ _ => true
 | .un => true
 | .fns _ => true
 | _ => false
def AV.cells : AV → Nat
 | .dat s _ => s.cells
 | .pr a b => a.cells + b.cells
 | .un => 0
 | .fns fs => fs.length
 | _ => 1
def AV.isTup : AV → Bool
 | .tup _ => true
 | _ => false
def AV.stands : AV → Bool
 | .tup _ => false
 | .dead => false
 | .pr a b => a.stands && b.stands
 | _ => true
def AV.mkPr : AV → AV → AV
 | .dat s x, .dat t y => .dat (.pair s t) (x, y)
 | a, b => .pr a b
def AV.comp : AV → Nat → AV
 | .pr a _, 0 => a
 | .pr _ b, k + 1 => b.comp k
 | .dat (.pair a _) x, 0 => .dat a x.1
 | .dat (.pair _ b) x, k + 1 => (AV.dat b x.2).comp k
 | _, _ => .dead
def AV.setComp : AV → Nat → AV → Option AV
 | .pr _ b, 0, u => some (.mkPr u b)
 | .pr a b, k + 1, u => (b.setComp k u).map (AV.mkPr a)
 | .dat (.pair _ b) x, 0, u => some (.mkPr u (.dat b x.2))
 | .dat (.pair a b) x, k + 1, u => ((AV.dat b x.2).setComp k u).map (AV.mkPr (.dat a x.1))
 | _, _, _ => none
def AV.sub (v : AV) (i : Nat) : AV :=
 match v with
 | .dat (.arr _ s) xs => .dat s (xs.getD i s.dflt)
 | .fns fs => .fsel fs i
 | v => v.comp i
def AV.setSub (v : AV) (i : Nat) (u : AV) : Option AV :=
 match v with
 | .dat (.arr n s) xs => match u with
  | .dat t y => if h : t = s then some (.dat (.arr n s) (xs.set i (Jd6 h y))) else none
  | _ => none
 | .fns _ => none
 | v => v.setComp i u
def AV.get : AV → List Nat → AV
 | v, [] => v
 | v, i :: p => (v.sub i).get p
inductive Lay where
 | one
 | unit
 | pair (a b : Lay)
 | arr (n : Nat) (a : Lay)
 deriving DecidableEq, Inhabited
def Sch.lay : Sch → Lay
 | .arr n s => .arr n s.lay
 | .pair a b => .pair a.lay b.lay
 | .unit => .unit
 | _ => .one
def AV.lay : AV → Lay
 | .dat s _ => s.lay
 | .pr a b => .pair a.lay b.lay
 | .un => .unit
 | .fns fs => .arr fs.length .one
 | _ => .one
def Lay.cells : Lay → Nat
 | .one => 1
 | .unit => 0
 | .pair a b => a.cells + b.cells
 | .arr n a => n * a.cells
def Lay.agg : Lay → Bool
 | .one => false
 | _ => true
def Lay.comp : Lay → Nat → Option (Nat × Lay)
 | .pair a _, 0 => some (0, a)
 | .pair a b, k + 1 => (b.comp k).map fun x => (a.cells + x.1, x.2)
 | _, _ => none
def Lay.sub (l : Lay) (i : Nat) : Option (Nat × Lay) :=
 match l with
 | .arr n a => if i < n then some (i * a.cells, a) else none
 | l => l.comp i
def Lay.at_ : Lay → List Nat → Option (Nat × Lay)
 | l, [] => some (0, l)
 | l, i :: p => (l.sub i).bind fun x => (x.2.at_ p).map fun y => (x.1 + y.1, y.2)
def AV.put : AV → List Nat → AV → Option AV
 | v, [], u => if u.stands && u.lay == v.lay then some u else none
 | v, i :: p, u => ((v.sub i).put p u).bind fun z => v.setSub i z
structure Jxy where
 s : Sch
 xs : List s.T
def Jaj.elems : Jaj → Option Jxy
 | .row _ s xs _ => some ⟨s, xs⟩
 | .box (.dat (.arr _ s) xs) => some ⟨s, xs⟩
 | _ => none
def Jaj.av : Jaj → AV
 | .row _ s xs _ => .dat (.arr xs.length s) xs
 | .box v => v
 | _ => .dead
def K9v : AV → Option (Nat × Sch)
 | .dat (.arr n s) _ => some (n, s)
 | _ => none
def Jaj.back (ob : Jaj) (z : AV) : Option Jaj :=
 match ob with
 | .row E s _ false => match z with
  | .dat (.arr _ t) ys => if h : t = s then some (.row E s (Jd6 (s := .slc t) (t := .slc s) (by rw [h]) ys) false) else none
  | _ => none
 | .box v => if K9v z = K9v v then some (.box z) else none
 | _ => none
def Jaj.get (ob : Jaj) (p : List Nat) : AV := ob.av.get p
def Jaj.put (ob : Jaj) (p : List Nat) (u : AV) : Option Jaj := (ob.av.put p u).bind ob.back
def ASt.obj (H : List Jaj) (o : Nat) : Jaj := H.getD o .free
abbrev Upd := List (Nat × Jaj)
def upd (H : List Jaj) (U : Upd) : List Jaj := U.foldl (fun H x => H.set x.1 x.2) H
def Jfw (H : List Jaj) : AV → Option Jxy
 | .dat (.slc s) xs => some ⟨s, xs⟩
 | .slx s xs => some ⟨s, xs⟩
 | .row o => (ASt.obj H o).elems
 | .sl o off len => match (ASt.obj H o).elems with
  | some e => some ⟨e.s, (e.xs.drop off).take len⟩
  | none => none
 | _ => none
def Jh6 (H : List Jaj) (s : Sch) (v : AV) : Option (List s.T) :=
 match v with
 | .nils => some []
 | .emp => some []
 | v => match Jfw H v with
  | some e => if h : e.s = s then some (Jd6 (s := .slc e.s) (t := .slc s) (by rw [h]) e.xs) else none
  | none => none
def Jhj (H : List Jaj) (s : Sch) (v : AV) : Option (List s.T) :=
 match v with
 | .dat .str b => Jh6 H s (.dat (.slc (.int .u8)) b)
 | v => Jh6 H s v
def lenOf (H : List Jaj) : AV → Option Nat
 | .dat .str x => some x.length
 | .nils => some 0
 | .emp => some 0
 | .sl o _ len => (ASt.obj H o).elems.map fun _ => len
 | .pk _ n => some n
 | v => (Jfw H v).map fun e => e.xs.length
def AV.refs : AV → List Nat
 | .row o => [o]
 | .sl o _ _ => [o]
 | .ptr o _ => [o]
 | .pr a b => a.refs ++ b.refs
 | .fn _ c => c.refs
 | .hnd _ o => [o]
 | .mv _ c => c.refs
 | .tup a => a.refs
 | _ => []
def Jaj.plain (b : Bool) : Jaj → Bool
 | .row _ _ _ _ => true
 | .box (.dat (.arr _ _) _) => true
 | .box _ => b
 | _ => false
def Jb8 (b : Bool) (H : List Jaj) : (s : Sch) → AV → Option s.T
 | s, .dat t x => if h : t = s then some (Jd6 h x) else none
 | .slc s, .slx t xs => if h : t = s then some (Jd6 (s := .slc t) (t := .slc s) (by rw [h]) xs) else none
 | .slc _, .nils => some []
 | .slc _, .emp => some []
 | .slc s, .row o => if (ASt.obj H o).plain b then Jh6 H s (.row o) else none
 | .slc s, .sl o i n => if (ASt.obj H o).plain b then Jh6 H s (.sl o i n) else none
 | .pair a c, .pr u v => match Jb8 b H a u, Jb8 b H c v with
  | some x, some y => some (x, y)
  | _, _ => none
 | .unit, .un => some ()
 | _, _ => none
def Jak : Jaj → Jaj
 | .row E s xs _ => .row E s xs true
 | .box (.dat (.arr _ s) xs) => .row 0 s xs true
 | o => o
def freezes (H : List Jaj) (v : AV) : Upd := v.refs.map fun o => (o, Jak (ASt.obj H o))
def Jbv (H : List Jaj) (n : Nat) (ob : Jaj) : Option Upd :=
 if n < H.length then match ASt.obj H n with
  | .free => some [(n, ob)]
  | _ => none
 else none
end Go.AI
namespace Go.AI
open Go Go.RowKit
abbrev Gam := List (Option TI)
def Gam.at_ (Γ : Gam) (t : TypeId) : Option TI := (Γ[t]?).join
def Gam.sch (Γ : Gam) (t : TypeId) : Option Sch := (Γ.at_ t).bind (·.sch)
def Gam.elem (Γ : Gam) (t : TypeId) : Option (TypeId × Sch) :=
 match Γ.at_ t with
 | some { kind := .slice e, .. } => (Γ.sch e).map fun s => (e, s)
 | _ => none
def big : Nat := 2147483648
abbrev Ans := Option (Bool × AV × Upd)
def Kkl : Value → AV
 | .int k n => if (Lit.int k n).wf then .dat (.int k) (ofI k n) else .dead
 | .bool b => .dat .bool b
 | .string s => if s.size ≤ maxLen then .dat .str s.data.toList else .dead
 | .slice none 0 0 => .nils
 | .nilFunc => .nilfn
 | .pointer none => .nilp
 | .map none => .nilm
 | _ => .dead
def Jcq (cur : List AV) : Operand → AV
 | .tmp t => cur.getD t .dead
 | .const v => Kkl v
 | .global _ => .dead
 | .func f => .fn f .un
def wAdd (k : IntKind) (a b : IT k) : IT k := ofI k (k.wrap (toI k a + toI k b))
def wSub (k : IntKind) (a b : IT k) : IT k := ofI k (k.wrap (toI k a - toI k b))
def wMul (k : IntKind) (a b : IT k) : IT k := ofI k (k.wrap (toI k a * toI k b))
def wQuo (k : IntKind) (a b : IT k) : IT k := ofI k (k.wrap ((toI k a).tdiv (toI k b)))
def wRem (k : IntKind) (a b : IT k) : IT k := ofI k ((toI k a).tmod (toI k b))
def wAnd (k : IntKind) (a b : IT k) : IT k := ofI k (k.wrap (BitVec.ofInt k.bits (toI k a) &&& BitVec.ofInt k.bits (toI k b)).toNat)
def wOr (k : IntKind) (a b : IT k) : IT k := ofI k (k.wrap (BitVec.ofInt k.bits (toI k a) ||| BitVec.ofInt k.bits (toI k b)).toNat)
def wXor (k : IntKind) (a b : IT k) : IT k := ofI k (k.wrap (BitVec.ofInt k.bits (toI k a) ^^^ BitVec.ofInt k.bits (toI k b)).toNat)
def Qkz (k : IntKind) (a b : IT k) : IT k := ofI k (k.wrap (BitVec.ofInt k.bits (toI k a) &&& ~~~BitVec.ofInt k.bits (toI k b)).toNat)
def wNot (k : IntKind) (a : IT k) : IT k := ofI k (k.wrap (BitVec.ofInt k.bits (if k.signed then -1 else k.max) ^^^ BitVec.ofInt k.bits (toI k a)).toNat)
def wNeg (k : IntKind) (a : IT k) : IT k := ofI k (k.wrap (0 - toI k a))
def Qn3 (k : IntKind) (a : IT k) (n : Int) : IT k := ofI k (k.wrap (toI k a * 2 ^ (min n.toNat k.bits)))
def Qnt (k : IntKind) (a : IT k) (n : Int) : IT k := ofI k ((toI k a).fdiv (2 ^ (min n.toNat k.bits)))
def Kkm (j k : IntKind) (a : IT j) : IT k := ofI k (k.wrap (toI j a))
def Qnu (k : IntKind) (a b : IT k) : IT k := if toI k b < toI k a then b else a
def Qnv (k : IntKind) (a b : IT k) : IT k := if toI k b > toI k a then b else a
def Kpo (k : IntKind) (n : Int) : Bool :=
 match k with
 | .u8 => true
 | .u16 => true
 | .u32 => true
 | .u64 => true
 | _ => decide (0 ≤ n)
def Sch.beq : (s : Sch) → s.T → s.T → Bool
 | .int k, a, b => toI k a == toI k b
 | .bool, a, b => a == b
 | .str, a, b => a == b
 | .arr _ s, a, b => a.length == b.length && (a.zip b).all fun x => s.beq x.1 x.2
 | .pair s t, a, b => s.beq a.1 b.1 && t.beq a.2 b.2
 | .unit, _, _ => true
 | .slc _, _, _ => false
def Sch.comparable : Sch → Bool
 | .slc _ => false
 | .arr _ s => s.comparable
 | .pair a b => a.comparable && b.comparable
 | _ => true
def K9w (op : BinOp) (k : IntKind) (a b : IT k) : Option (Bool × AV) :=
 match op with
 | .add => some (true, .dat (.int k) (wAdd k a b))
 | .sub => some (true, .dat (.int k) (wSub k a b))
 | .mul => some (true, .dat (.int k) (wMul k a b))
 | .quo => some (toI k b != 0, .dat (.int k) (wQuo k a b))
 | .rem => some (toI k b != 0, .dat (.int k) (wRem k a b))
 | .and => some (true, .dat (.int k) (wAnd k a b))
 | .or => some (true, .dat (.int k) (wOr k a b))
 | .xor => some (true, .dat (.int k) (wXor k a b))
 | .andNot => some (true, .dat (.int k) (Qkz k a b))
 | .eql => some (true, .dat .bool (toI k a == toI k b))
 | .neq => some (true, .dat .bool (toI k a != toI k b))
 | .lss => some (true, .dat .bool (decide (toI k a < toI k b)))
 | .leq => some (true, .dat .bool (decide (toI k a ≤ toI k b)))
 | .gtr => some (true, .dat .bool (decide (toI k a > toI k b)))
 | .geq => some (true, .dat .bool (decide (toI k a ≥ toI k b)))
 | _ => none
def Qjy (op : BinOp) (a b : List UInt8) : Option (Bool × AV) :=
 match op with
 | .eql => some (true, .dat .bool (a == b))
 | .neq => some (true, .dat .bool (!(a == b)))
 | _ => none
def Kw7 {α : Type} (f : α → α → Bool) : List α → List α → Bool
 | [], [] => true
 | a :: l, b :: m => f a b && Kw7 f l m
 | _, _ => false
def Jtw : (s : Sch) → s.T → s.T → Bool
 | .int k, a, b => toI k a == toI k b
 | .bool, a, b => a == b
 | .str, a, b => a == b
 | .slc _, _, _ => false
 | .arr _ s, a, b => Kw7 (Jtw s) a b
 | .pair s t, a, b => Jtw s a.1 b.1 && Jtw t a.2 b.2
 | .unit, _, _ => true
def Qn4 (Γ : Gam) (t : TypeId) (s : Sch) : Bool := match Γ.at_ t with
 | some ti => ti.eq && ti.sch == some s
 | none => false
def aBin (Γ : Gam) (t : TypeId) (op : BinOp) (x y : AV) : Option (Bool × AV) :=
 match x, y with
 | .dat (.int k) a, .dat (.int j) b =>
  match op with
  | .shl => some (Kpo j (toI j b), .dat (.int k) (Qn3 k a (toI j b)))
  | .shr => some (Kpo j (toI j b), .dat (.int k) (Qnt k a (toI j b)))
  | op => if h : j = k then K9w op k a (Jd6 (s := .int j) (t := .int k) (by rw [h]) b) else none
 | .dat .str a, .dat .str b => Qjy op a b
 | .dat .bool a, .dat .bool b => if Γ.sch t == some .bool then match op with
  | .eql => some (true, .dat .bool (a == b))
  | .neq => some (true, .dat .bool (!(a == b)))
  | _ => none
  else none
 | .dat s a, .dat s' b => if h : s' = s then if Qn4 Γ t s then match op with
  | .eql => some (true, .dat .bool (Jtw s a (Jd6 h b)))
  | .neq => some (true, .dat .bool (!(Jtw s a (Jd6 h b))))
  | _ => none
  else none else none
 | _, _ => none
def aUn (op : UnOp) (x : AV) : Option AV :=
 match op, x with
 | .neg, .dat (.int k) a => some (.dat (.int k) (wNeg k a))
 | .xor, .dat (.int k) a => some (.dat (.int k) (wNot k a))
 | .not, .dat .bool b => some (.dat .bool (!b))
 | _, _ => none
def Jj3 (H : List Jaj) (s : Sch) (v : AV) : Option (s.T × Upd) := (Jb8 false H s v).map fun x => (x, freezes H v)
def Jh2 (s : Sch) (cur : List AV) (H : List Jaj) : List (Nat × Operand) → List s.T → Upd → Option (List s.T × Upd)
 | [], xs, U => some (xs, U)
 | (i, x) :: r, xs, U => match Jj3 H s (Jcq cur x) with
  | some (y, V) => if i < xs.length then Jh2 s cur H r (xs.set i y) (U ++ V) else none
  | none => none
def Jk1 : Sch → List Value
 | .int k => [.int k 0]
 | .bool => [.bool false]
 | .str => [.string ⟨#[]⟩]
 | .slc _ => [.slice none 0 0]
 | .arr n s => (List.replicate n (Jk1 s)).flatten
 | .pair a b => Jk1 a ++ Jk1 b
 | .unit => []
def Sch.isSlc : Sch → Bool
 | .slc _ => true
 | _ => false
def J0i (Γ : Gam) (n : Bool) (t : TypeId) : Option (AV × List Value) :=
 match Γ.at_ t with
 | some { kind := .func, .. } => some (.nilfn, [.nilFunc])
 | some { kind := .ptr _, .. } => some (.nilp, [.pointer none])
 | some { kind := .map _ _, .. } => some (.nilm, [.map none])
 | some ti => ti.sch.map fun s => bif n && s.isSlc then (.nils, [.slice none 0 0]) else (.dat s s.dflt, Jk1 s)
 | none => none
def Jm5 (Γ : Gam) (n : Bool) : List (Nat × TypeId) → Option (AV × List Value)
 | [] => some (.dat .unit (), [])
 | (_, t) :: r => match J0i Γ n t, Jm5 Γ n r with
  | some (u, L), some (v, M) => some (.mkPr u v, L ++ M)
  | _, _ => none
def Jml (Γ : Gam) (fs : List (Nat × TypeId)) : Option (AV × List Value) := Jm5 Γ (fs.any fun f => (Γ.sch f.2).isNone) fs
def J3u (Γ : Gam) (ti : TI) : Option (AV × List Value) :=
 match ti.kind with
 | .struct fs => Jml Γ fs
 | .array n e => match Γ.at_ e with
  | some { kind := .func, .. } => some (.fns (List.replicate n none), List.replicate n .nilFunc)
  | _ => none
 | _ => none
def J0j (cur : List AV) : List (Nat × Operand) → List (Option FuncId) → Option (List (Option FuncId))
 | [], fs => some fs
 | (i, x) :: r, fs => if i < fs.length then match Jcq cur x with
  | .fn f .un => J0j cur r (fs.set i (some f))
  | _ => none
  else none
def Jgn (Γ : Gam) (cur : List AV) (fs : List (Nat × TypeId)) : List (Nat × Operand) → AV → Option AV
 | [], v => some v
 | (k, x) :: r, v =>
  match fs[k]?, v.lay.comp k with
  | some (off, t), some (o, l) => match Γ.at_ t with
   | some ti =>
    let u := Jcq cur x
    if o = off ∧ u.stands = true ∧ u.lay = l ∧ l.cells = ti.cells then (v.setComp k u).bind (Jgn Γ cur fs r) else none
   | none => none
  | _, _ => none
def Gam.sliceOf (Γ : Gam) (t : TypeId) (n : Nat) : Bool :=
 match Γ.at_ t with
 | some { kind := .slice e, .. } => match Γ.at_ e with
  | some ti => ti.cells == n
  | none => false
 | _ => false
def bnd : Option AV → Option (Option Int)
 | none => some none
 | some (.dat (.int k) a) => some (some (toI k a))
 | _ => none
def Jk2 (n : Nat) : Option Int → Option Int → Bool
 | none, none => true
 | none, some h => decide (0 ≤ h) && decide (h ≤ n)
 | some l, none => decide (0 ≤ l) && decide (l ≤ n)
 | some l, some h => decide (0 ≤ l) && decide (l ≤ h) && decide (h ≤ n)
def cut {α : Type} (xs : List α) : Option Int → Option Int → List α
 | none, none => xs
 | none, some h => xs.take h.toNat
 | some l, none => xs.drop l.toNat
 | some l, some h => (xs.take h.toNat).drop l.toNat
def Jez : Option Int → Nat
 | none => 0
 | some l => l.toNat
def Jxz (n : Nat) : Option Int → Nat
 | none => n
 | some h => h.toNat
def J52 (Γ : Gam) (H : List Jaj) (t : TypeId) (x : AV) (lo hi mx : Option AV) : Option (Bool × AV) :=
 match bnd lo, bnd hi, mx with
 | some l, some h, none => match x with
  | .dat .str a => if Γ.sch t == some .str then some (Jk2 a.length l h, .dat .str (cut a l h)) else none
  | .dat (.slc s) a => if Γ.sliceOf t s.cells then some (Jk2 a.length l h, .dat (.slc s) (cut a l h)) else none
  | .slx s a => if Γ.sliceOf t s.cells then some (Jk2 a.length l h, if h.isNone then .slx s (cut a l h) else .dat (.slc s) (cut a l h)) else none
  | .row o => match (ASt.obj H o).elems with
   | some e => if Γ.sliceOf t e.s.cells then some (Jk2 e.xs.length l h, .sl o (Jez l) (Jxz e.xs.length h - Jez l)) else none
   | none => none
  | .sl o off n => match (ASt.obj H o).elems with
   | some e => if Γ.sliceOf t e.s.cells then some (Jk2 n l h, .sl o (off + Jez l) (Jxz n h - Jez l)) else none
   | none => none
  | _ => none
 | _, _, _ => none
def Jra (Γ : Gam) (t : TypeId) : Bool :=
 match Γ.at_ t with
 | some { kind := .slice e, .. } => (Γ.at_ e).isSome
 | _ => false
def Jtx (Γ : Gam) (H : List Jaj) (t : TypeId) (z : Bool) (x : AV) (lo : Option AV) (hi mx : AV) : Option (Bool × AV) :=
 match bnd lo, bnd (some hi), bnd (some mx) with
 | some l, some (some h), some (some m) => match x with
  | .dat (.slc s) a => if Γ.sliceOf t s.cells then some (Jk2 a.length l (some h) && (m == h), .slx s (cut a l (some h))) else none
  | .slx s a => if Γ.sliceOf t s.cells then some (Jk2 a.length l (some h) && (m == h), .slx s (cut a l (some h))) else none
  | .row o => match (ASt.obj H o).elems with
   | some e => if Γ.sliceOf t e.s.cells then some (Jk2 e.xs.length l (some h) && (m == h), if z then .emp else .sl o (Jez l) (h.toNat - Jez l)) else none
   | none => none
  | .sl o off n => match (ASt.obj H o).elems with
   | some e => if Γ.sliceOf t e.s.cells then some (Jk2 n l (some h) && (m == h), if z then .emp else .sl o (off + Jez l) (h.toNat - Jez l)) else none
   | none => none
  | .nils => if Jra Γ t then some (Jk2 0 l (some h) && (m == h), .nils) else none
  | .emp => if Jra Γ t then some (Jk2 0 l (some h) && (m == h), .emp) else none
  | _ => none
 | _, _, _ => none
def Gam.arrOf (Γ : Gam) (t : TypeId) (n k : Nat) : Bool :=
 match Γ.at_ t with
 | some { kind := .array m e, .. } => match Γ.at_ e with
  | some ti => Nat.beq m n && Nat.beq ti.cells k
  | none => false
 | _ => false
def Kkn (Γ : Gam) (H : List Jaj) (t : TypeId) (o : Nat) (lo hi : Option AV) : Option (Bool × AV) :=
 match bnd lo, bnd hi, ASt.obj H o with
 | some l, some h, .box (.dat (.arr n s) _) => if Γ.arrOf t n s.cells then some (Jk2 n l h, .sl o (Jez l) (Jxz n h - Jez l)) else none
 | _, _, _ => none
def Jyx (Γ : Gam) (H : List Jaj) (t : TypeId) (z : Bool) (x : AV) (lo hi mx : Option AV) : Option (Bool × AV) :=
 match mx with
 | some m => match hi with
  | some h => Jtx Γ H t z x lo h m
  | none => none
 | none => match x with
  | .ptr o [] => Kkn Γ H t o lo hi
  | x => J52 Γ H t x lo hi none
end Go.AI
namespace Go.AI
open Go Go.RowKit
def Jc0 (cur : List AV) (d : Option Tmp) (v : AV) : List AV :=
 match d with
 | some t => cur.set t v
 | none => cur
def Kko : Operand → Operand → Bool
 | .tmp a, .tmp b => a == b
 | _, _ => false
def J3v (Γ : Gam) (t : TypeId) (x y : AV) (H : List Jaj) (nid : Nat) : Ans :=
 match Γ.elem t with
 | none => none
 | some (E, s) =>
  match Jhj H s y with
  | none => none
  | some ys =>
   match x with
   | .nils => (Jbv H nid (.row E s ys false)).map fun U => (decide (ys.length ≤ big), .row nid, U)
   | .emp => (Jbv H nid (.row E s ys false)).map fun U => (decide (ys.length ≤ big), .row nid, U)
   | .row o => match ASt.obj H o with
    | .row E' s' xs false => if h : E' = E ∧ s' = s then
      let zs := (Jd6 (s := .slc s') (t := .slc s) (by rw [h.2]) xs) ++ ys
      (Jbv H nid (.row E s zs false)).map fun U => (decide (zs.length ≤ big), .row nid, (o, .gone) :: U)
     else none
    | _ => none
   | .slx s' xs => if h : s' = s then
      let zs := (Jd6 (s := .slc s') (t := .slc s) (by rw [h]) xs) ++ ys
      some (decide (zs.length ≤ big), .dat (.slc s) zs, [])
     else none
   | _ => none
def K53 (Γ : Gam) (t : TypeId) (x y : AV) (H : List Jaj) : Ans :=
 match Γ.elem t with
 | none => none
 | some (_, s) =>
  match Jhj H s y with
  | none => none
  | some ys =>
   let at_ (o off : Nat) (len : Option Nat) : Ans :=
    let go (xs : List s.T) (back : List s.T → Jaj) : Ans :=
     let n := min ys.length (len.getD xs.length)
     some (true, .dat (.int .i64) (n : Int), [(o, back (xs.take off ++ ys.take n ++ xs.drop (off + n)))])
    match ASt.obj H o with
    | .row E' s' xs false => if h : s' = s then go (Jd6 (s := .slc s') (t := .slc s) (by rw [h]) xs) (fun zs => .row E' s zs false) else none
    | .box (.dat (.arr n s') xs) => if h : s' = s then go (Jd6 (s := .slc s') (t := .slc s) (by rw [h]) xs) (fun zs => .box (.dat (.arr n s) zs)) else none
    | _ => none
   match x with
   | .row o => at_ o 0 none
   | .sl o off len => at_ o off (some len)
   | _ => none
def Khm (Γ : Gam) (t : TypeId) (x : AV) (H : List Jaj) : Ans :=
 match Γ.elem t with
 | none => none
 | some (_, s) =>
  let at_ (o off : Nat) (len : Option Nat) : Ans :=
   match ASt.obj H o with
   | .row E' s' xs false => if h : s' = s then
     let ys : List s.T := Jd6 (s := .slc s') (t := .slc s) (by rw [h]) xs
     let n := len.getD ys.length
     some (true, .tup .un, [(o, .row E' s (ys.take off ++ List.replicate n s.dflt ++ ys.drop (off + n)) false)])
    else none
   | _ => none
  match x with
  | .row o => at_ o 0 none
  | .sl o off len => at_ o off (some len)
  | _ => none
def Kpp (Γ : Gam) (t : TypeId) (x : AV) (H : List Jaj) : Ans :=
 match Γ.at_ t with
 | none => none
 | some ti =>
  let ok (v : AV) : Ans := if v.stands && v.cells == ti.cells && v.agg == ti.agg then some (true, v, []) else none
  match x with
  | .ptr o p => ok ((ASt.obj H o).get p)
  | .vptr s y => ok (.dat s y)
  | _ => none
def J9q (Γ : Gam) (t : TypeId) (x u : AV) (H : List Jaj) : Ans :=
 match Γ.at_ t with
 | none => none
 | some ti =>
  match x with
  | .ptr o p =>
   if u.stands && u.cells == ti.cells then
    match (ASt.obj H o).put p u with
    | some ob => some (true, .dead, [(o, ob)])
    | none => match ti.sch with
     | some s => match Jj3 H s u with
      | some (y, V) => if u.refs.contains o then none else match (ASt.obj H o).put p (.dat s y) with
       | some ob => some (true, .dead, V ++ [(o, ob)])
       | none => none
      | none => none
     | none => none
   else none
  | _ => none
def Jgd (Γ : Gam) (t : TypeId) (x i : AV) (H : List Jaj) : Ans :=
 match i with
 | .dat (.int k) a =>
  let n := (toI k a).toNat
  let inside (len : Nat) : Bool := decide (0 ≤ toI k a) && decide (toI k a < len)
  let fits (e : TypeId) (s : Sch) : Bool := match Γ.at_ e with | some ti => ti.cells == s.cells | none => false
  match Γ.at_ t with
  | some { kind := .slice e, .. } => match x with
   | .row o => match (ASt.obj H o).elems with
    | some el => if fits e el.s then some (inside el.xs.length, .ptr o [n], []) else none
    | none => none
   | .sl o off len => match (ASt.obj H o).elems with
    | some el => if fits e el.s then some (inside len, .ptr o [off + n], []) else none
    | none => none
   | .dat (.slc s) xs => if fits e s then some (inside xs.length, .vptr s (xs.getD n s.dflt), []) else none
   | .slx s xs => if fits e s then some (inside xs.length, .vptr s (xs.getD n s.dflt), []) else none
   | _ => none
  | some { kind := .array len e, .. } => match x with
   | .ptr o p => match (ASt.obj H o).get p with
    | .dat (.arr m s) _ => if fits e s && m == len then some (inside len, .ptr o (p ++ [n]), []) else none
    | .fns fs => if fits e .bool && fs.length == len then some (inside len, .ptr o (p ++ [n]), []) else none
    | _ => none
   | .vptr (.arr m s) xs => if fits e s && m == len then some (inside len, .vptr s (xs.getD n s.dflt), []) else none
   | _ => none
  | _ => none
 | _ => none
def K9x (Γ : Gam) (t : TypeId) (x i : AV) : Option (Bool × AV) :=
 match i with
 | .dat (.int k) a =>
  let n := (toI k a).toNat
  let inside (len : Nat) : Bool := decide (0 ≤ toI k a) && decide (toI k a < len)
  match x with
  | .dat .str b => if Γ.sch t == some .str then some (inside b.length, .dat (.int .u8) (b.getD n 0)) else none
  | .dat (.arr m s) xs => match Γ.at_ t with
   | some { kind := .array len e, .. } => match Γ.at_ e with
    | some ti => if ti.cells == s.cells && ti.agg == s.agg && m == len then some (inside len, .dat s (xs.getD n s.dflt)) else none
    | none => none
   | _ => none
  | _ => none
 | _ => none
def Kkp (Γ : Gam) (t : TypeId) (f : Nat) : Option (Nat × TI) :=
 match Γ.at_ t with
 | some { kind := .struct fs, .. } => match fs[f]? with
  | some (off, ft) => (Γ.at_ ft).map fun ti => (off, ti)
  | none => none
 | _ => none
def K9y (Γ : Gam) (t : TypeId) (x : AV) (f : Nat) : Option AV :=
 match Kkp Γ t f with
 | some (off, ti) =>
  let v := x.comp f
  if ((x.lay.comp f).map (·.1)) == some off && v.stands && v.cells == ti.cells && v.agg == ti.agg then some v else none
 | none => none
def Jmm (Γ : Gam) (t : TypeId) (x : AV) (f : Nat) (H : List Jaj) : Option AV :=
 match Kkp Γ t f with
 | some (off, ti) =>
  if ti.cells = 0 then none else
  match x with
  | .ptr o p => if ((((ASt.obj H o).get p).lay.comp f).map (·.1)) == some off then some (.ptr o (p ++ [f])) else none
  | .vptr s y => match (AV.dat s y).comp f with
   | .dat s' y' => if ((s.lay.comp f).map (·.1)) == some off then some (.vptr s' y') else none
   | _ => none
  | _ => none
 | none => none
def Jv0 (Γ : Gam) (src dst : TypeId) (x : AV) (H : List Jaj) (nid : Nat) : Ans :=
 match Γ.at_ dst with
 | none => none
 | some td =>
  if (Γ.at_ src).isNone then none else
  match td.sch, x with
  | some (.int k), .dat (.int j) a => some (true, .dat (.int k) (Kkm j k a), [])
  | some .str, .dat .str a => some (true, .dat .str a, [])
  | some (.slc (.int .u8)), .dat .str a => match td.kind with
   | .slice e => (Jbv H nid (.row e (.int .u8) a false)).map fun U => (decide (a.length ≤ big), .row nid, U)
   | _ => none
  | some (.slc (.int .u8)), .row o => if src == dst then
    match ASt.obj H o with
    | .row _ (.int .u8) xs false => some (!xs.isEmpty, .row o, [])
    | _ => none
   else none
  | some .str, y => match Γ.sch src with
   | some (.slc (.int .u8)) => (Jh6 H (.int .u8) y).map fun xs => (true, .dat .str xs, [])
   | _ => none
  | _, _ => none
def Qg6 (Γ : Gam) (t : TypeId) (l c : Operand) (cur : List AV) (H : List Jaj) (nid : Nat) : Ans :=
 match Γ.elem t, Jcq cur l, Jcq cur c with
 | some (E, s), .dat (.int j) a, .dat (.int k) b =>
  (Jbv H nid (.row E s (List.replicate (toI j a).toNat s.dflt) false)).map fun U =>
   (decide (0 ≤ toI j a) && (Kko l c || decide (toI j a ≤ toI k b)) && decide (toI k b ≤ big), .row nid, U)
 | _, _, _ => none
def Jty (mx : Bool) (k : IntKind) (a : IT k) : List AV → Option (IT k)
 | [] => some a
 | .dat (.int j) b :: r => if h : j = k then
   Jty mx k ((if mx then Qnv else Qnu) k a (Jd6 (s := .int j) (t := .int k) (by rw [h]) b)) r
  else none
 | _ => none
def Qg7 (Γ : Gam) (t : TypeId) : AV → Bool
 | .dat .str _ => Γ.sch t == some .str
 | _ => match Γ.at_ t with
  | some { kind := .slice _, .. } => true
  | _ => false
def Jv1 (Γ : Gam) (b : Builtin) (ts : List TypeId) (xs : List AV) (H : List Jaj) (nid : Nat) : Ans :=
 match b, ts, xs with
 | .len, [t], [x] => if Qg7 Γ t x then (lenOf H x).map fun n => (true, .dat (.int .i64) (n : Int), []) else none
 | .append, [t, t'], [x, y] => if t' == t || Γ.sch t' == some .str then J3v Γ t x y H nid else none
 | .copy, t :: _, [x, y] => K53 Γ t x y H
 | .clear, [t], [x] => Khm Γ t x H
 | .max, _, .dat (.int k) a :: r => (Jty true k a r).map fun n => (true, .dat (.int k) n, [])
 | .min, _, .dat (.int k) a :: r => (Jty false k a r).map fun n => (true, .dat (.int k) n, [])
 | _, _, _ => none
def J0k (r : Option (Bool × AV)) : Ans := r.map fun x => (x.1, x.2, [])
def Jyy (r : Option AV) : Ans := r.map fun x => (true, x, [])
def Kkq : Sch → Bool
 | .arr n _ => decide (n ≤ maxLen)
 | _ => true
def Kkr : AV → Bool
 | .dat s _ => Kkq s
 | _ => true
def K9z : Option Operand → Option Operand → Bool
 | none, some (.const (.int _ 0)) => true
 | _, _ => false
def Jyz (s : List UInt8) (pos : Nat) : Nat := pos + (Utf8.decode ⟨s.toArray⟩ pos).2
def Kks (_ : Gam) (_ : TypeId) (_ : List Jaj) (_ : Nat) : Ans := none
def J9r (_ : Bool) (_ : Gam) (_ : TypeId) (_ _ : AV) (_ : Bool) (_ : List Jaj) (_ : Nat) : Ans := none
def Jpz (_ : Gam) (_ : TypeId) (_ _ _ : AV) (_ : List Jaj) : Ans := none
def aop (mv : Bool) (Γ : Gam) (o : Op) (cur : List AV) (H : List Jaj) (nid : Nat) : Ans :=
 let e := Jcq cur
 match o with
 | .move x => some (true, e x, [])
 | .assign x => some (true, e x, [])
 | .pick c a b => match e c with
  | .dat .bool true => some (true, e a, [])
  | .dat .bool false => some (true, e b, [])
  | _ => none
 | .alloc t => match Γ.sch t with
  | some s => if Kkq s then (Jbv H nid (.box (bif s.isSlc then .nils else .dat s s.dflt))).map fun U => (true, .ptr nid [], U) else none
  | none => match Γ.at_ t with
   | some ti => match J3u Γ ti with
    | some (z, _) => if Kkr z then (Jbv H nid (.box z)).map fun U => (true, .ptr nid [], U) else none
    | none => none
   | none => none
 | .box _ x => if (e x).stands && Kkr (e x) then (Jbv H nid (.box (e x))).map fun U => (true, .ptr nid [], U) else none
 | .build t parts => match Γ.at_ t with
  | some { kind := .struct fs, .. } => match Jml Γ fs with
   | some (z, _) => Jyy (Jgn Γ cur fs parts.toList z)
   | none => none
  | some { kind := .array n _, sch := some (.arr m s), .. } => if m = n then (Jh2 s cur H parts.toList (List.replicate n s.dflt) []).map fun x => (true, .dat (.arr n s) x.1, x.2) else none
  | some { kind := .array n e, sch := none, .. } => match Γ.at_ e with
   | some { kind := .func, .. } => Jyy ((J0j cur parts.toList (List.replicate n none)).map .fns)
   | _ => none
  | _ => none
 | .buildSlice t n parts => match Γ.elem t with
  | some (E, s) => if n ≤ 65536 ∧ n * s.cells ≤ 16777216 then match Jh2 s cur H parts.toList (List.replicate n s.dflt) [] with
    | some (xs, V) => if (V.map (·.1)).contains nid then none else (Jbv H nid (.row E s xs false)).map fun U => (true, .row nid, V ++ U)
    | none => none
   else none
  | none => none
 | .load t a => Kpp Γ t (e a) H
 | .store t a x => J9q Γ t (e a) (e x) H
 | .nilCheck x => match e x with
  | .ptr o p => if (ASt.obj H o).live then some (true, .ptr o p, []) else none
  | .vptr s y => some (true, .vptr s y, [])
  | .fn f c => some (true, .fn f c, [])
  | _ => none
 | .binOp op t x y _ => J0k (aBin Γ t op (e x) (e y))
 | .unOp op _ x => Jyy (aUn op (e x))
 | .convert s d x => Jv0 Γ s d (e x) H nid
 | .makeFunc (.func f) first caps => if caps.size = 0 ∧ first.size ≠ 0 ∧ first.toList.all (fun x => !(e x).isTup) then some (true, .mv f (first.toList.foldr (fun x r => .pr (e x) r) .un), []) else if first.size = 0 ∧ caps.toList.all (fun x => !(e x).isTup) then some (true, .fn f (caps.toList.foldr (fun x r => .pr (e x) r) .un), []) else none
 | .makeSlice t l c => Qg6 Γ t l c cur H nid
 | .slice t x lo hi mx => J0k (Jyx Γ H t (K9z lo hi) (e x) (lo.map e) (hi.map e) (mx.map e))
 | .makeInterface t x => match e x, Γ.at_ t with
  | .dat .unit _, some { kind := .struct _, .. } => some (true, .ifc t, [])
  | _, _ => none
 | .range t x => match e x with
  | .dat .str s => if Γ.sch t == some .str then (Jbv H nid (.oth (.sit s 0))).map fun U => (true, .ptr nid [], U) else none
  | _ => none
 | .fieldAddr t x f => Jyy (Jmm Γ t (e x) f H)
 | .field t x f => Jyy (K9y Γ t (e x) f)
 | .indexAddr t x i => Jgd Γ t (e x) (e i) H
 | .index t x i => J0k (K9x Γ t (e x) (e i))
 | .extract x i => match e x with
  | .tup v => match v.comp i with
   | .dead => none
   | u => some (true, u, [])
  | _ => none
 | .makeMap t none => Kks Γ t H nid
 | .lookup t m x ok => J9r mv Γ t (e m) (e x) ok H nid
 | .mapUpdate t m x u => Jpz Γ t (e m) (e x) (e u) H
 | .call { callee := .builtin b, args, argTypes } => Jv1 Γ b argTypes.toList (args.toList.map e) H nid
 | _ => none
inductive BV where
 | d (s : Sch) (x : s.T)
 | o (E : TypeId) (s : Sch) (xs : List s.T)
 | f (g : FuncId)
 deriving Inhabited
inductive PM where
 | d (s : Sch)
 | o (E : TypeId) (s : Sch)
 | f
 deriving DecidableEq, Inhabited
def BV.mode : BV → PM
 | .d s _ => .d s
 | .o E s _ => .o E s
 | .f _ => .f
structure Orc where
 ps : List PM
 fresh : Bool
 rows : Nat
 fn : List BV → Option (Bool × List BV)
def Sch.flat : Sch → Bool
 | .slc _ => false
 | .arr _ s => s.flat
 | .pair a b => a.flat && b.flat
 | _ => true
def BV.flat : BV → Bool
 | .d s _ => s.flat
 | .o _ s _ => s.flat
 | .f _ => true
def Jrb (fresh : Bool) (H : List Jaj) : PM → AV → Option (BV × Upd)
 | .d s, v => (Jb8 fresh H s v).map fun x => (.d s x, if fresh then [] else freezes H v)
 | .o E s, .nils => some (.o E s [], [])
 | .o E s, .row o => match ASt.obj H o with
  | .row E' s' xs false => if h : E' = E ∧ s' = s then some (.o E s (Jd6 (s := .slc s') (t := .slc s) (by rw [h.2]) xs), [(o, .gone)]) else none
  | _ => none
 | .f, .fn g .un => some (.f g, [])
 | _, _ => none
def Jj0 (fresh : Bool) (H : List Jaj) : List PM → List AV → Option (List BV × Upd)
 | [], [] => some ([], [])
 | m :: ms, v :: vs => match Jrb fresh H m v, Jj0 fresh H ms vs with
  | some (b, U), some (bs, V) => some (b :: bs, U ++ V)
  | _, _ => none
 | _, _ => none
def K90 (U : Upd) : List Nat := U.filterMap fun x => match x.2 with | .gone => some x.1 | _ => none
def Jrc (U : Upd) (vs : List AV) : Bool := (K90 U).all fun o => (vs.flatMap AV.refs).count o == 1
def Jj1 (H : List Jaj) : List BV → Nat → Option (List AV × Upd)
 | [], _ => some ([], [])
 | .d s x :: bs, nid => (Jj1 H bs nid).map fun r => (.dat s x :: r.1, r.2)
 | .o E s xs :: bs, nid => match Jbv H nid (.row E s xs false), Jj1 H bs (nid + 1) with
  | some U, some r => some (.row nid :: r.1, U ++ r.2)
  | _, _ => none
 | .f g :: bs, nid => (Jj1 H bs nid).map fun r => (.fn g .un :: r.1, r.2)
def K24 (bs : List BV) : Nat := (bs.filter fun b => match b with | .o _ _ _ => true | _ => false).length
def Khn : List AV → AV
 | [v] => v
 | vs => .tup (vs.foldr .pr .un)
def unchain : AV → Option (List AV)
 | .un => some []
 | .pr a b => (unchain b).map (a :: ·)
 | _ => none
def Qnw (c : Orc) (args : List AV) (H : List Jaj) (nid : Nat) : Ans :=
 match Jj0 c.fresh H c.ps args with
 | some (bs, U) => if Jrc U args then match c.fn bs with
  | some (pre, rs) => if K24 rs = c.rows ∧ (!c.fresh || rs.all BV.flat) = true then (Jj1 H rs nid).map fun r => (pre, Khn r.1, U ++ r.2) else none
  | none => none
  else none
 | none => none
def Jlz (cur : List AV) (f : Operand) (args : List AV) : Option (FuncId × List AV) :=
 match Jcq cur f with
 | .fn g caps => (unchain caps).map fun cs => (g, args ++ cs)
 | .mv g fst => (unchain fst).map fun cs => (g, cs ++ args)
 | _ => none
abbrev Joq := FuncId → Option Orc
def Jh7 (orc : Joq) (o : Op) : Nat :=
 match o with
 | .alloc _ => 1
 | .box _ _ => 1
 | .buildSlice _ _ _ => 1
 | .convert _ _ _ => 1
 | .makeSlice _ _ _ => 1
 | .range _ _ => 1
 | .makeMap _ _ => 1
 | .lookup _ _ _ _ => 1
 | .call { callee := .builtin .append, .. } => 1
 | .call { callee := .value (.func g), .. } => match orc g with
  | some c => c.rows
  | none => 0
 | .call { callee := .value _, .. } => 4
 | _ => 0
def Jl0 (mv : Bool) (Γ : Gam) (orc : Joq) (o : Op) (cur : List AV) (H : List Jaj) (nid : Nat) : Ans :=
 match o with
 | .call { callee := .value f, args, .. } => match Jlz cur f (args.toList.map (Jcq cur)) with
  | some (g, as) => match orc g with
   | some c => if c.rows ≤ Jh7 orc o then Qnw c as H nid else none
   | none => none
  | none => none
 | o => aop mv Γ o cur H nid
def Jrd (orc : Joq) : List Oper → Nat
 | [] => 0
 | o :: r => Jh7 orc o.op + Jrd orc r
abbrev K91 := FuncId ⊕ Nat
abbrev Jej (R : Type) := K91 → List AV → ASt → (AV → ASt → Option R) → (TypeId → ASt → Option R) → Option R
section
variable {R : Type}
def Jv2 (orc : Joq) (cur : List AV) (o : Op) : Option (K91 × List AV) :=
 match o with
 | .call { callee := .value f, args, .. } => match Jlz cur f (args.toList.map (Jcq cur)) with
  | some (g, as) => match orc g with
   | some _ => none
   | none => some (.inl g, as)
  | none => match Jcq cur f with
   | .hnd .yield o => some (.inr o, args.toList.map (Jcq cur))
   | _ => none
 | _ => none
def K92 (cur : List AV) (o : Op) : Option TypeId :=
 match o with
 | .panic x => match Jcq cur x with
  | .ifc t => some t
  | _ => none
 | _ => none
def K93 (o : Op) (cur : List AV) (H : List Jaj) : Option (Bool × (AV × Upd) × (AV × Upd)) :=
 match o with
 | .next it true => match Jcq cur it with
  | .ptr n [] => match ASt.obj H n with
   | .oth (.sit s pos) => some (decide (pos < s.length), (.tup (.pr (.dat .bool true) (.pr (.dat (.int .i64) (pos : Int)) (.pr .dead .un))), [(n, .oth (.sit s (Jyz s pos)))]), (.tup (.pr (.dat .bool false) .un), []))
   | _ => none
  | _ => none
 | _ => none
def Jtz (call : Jej R) (as : List AV) (st : ASt) (kk : AV → ASt → Option R) (kx : TypeId → ASt → Option R) (i : Nat) : List (Option FuncId) → Nat → Option R
 | [], _ => none
 | g :: r, j => bif Nat.beq i j then match g with
   | some g => call (.inl g) as st kk kx
   | none => none
  else Jtz call as st kk kx i r (j + 1)
def Qn5 (cur : List AV) (o : Op) : Option (List (Option FuncId) × Nat × List AV) :=
 match o with
 | .call { callee := .value f, args, .. } => match Jcq cur f with
  | .fsel fs i => some (fs, i, args.toList.map (Jcq cur))
  | _ => none
 | _ => none
def J67 (a b : Option R) : Option R :=
 match a with
 | some _ => b
 | none => none
def K25 (H : List Jaj) : AV → Option (Bool × Bool)
 | .nils => some (true, false)
 | .emp => some (true, true)
 | .dat (.slc _) xs => some (xs.isEmpty, true)
 | .slx _ xs => some (xs.isEmpty, true)
 | .row o => (ASt.obj H o).elems.map fun e => (e.xs.isEmpty, true)
 | .sl o _ n => (ASt.obj H o).elems.map fun _ => (Nat.beq n 0, true)
 | .pk b _ => some (b, false)
 | _ => none
def J0l (Γ : Gam) (t : TypeId) : Bool :=
 match Γ.at_ t with
 | some { kind := .slice _, .. } => true
 | _ => false
def Kw8 (Γ : Gam) (o : Op) (cur : List AV) (H : List Jaj) : Option ((Bool × Bool) × Bool) :=
 match o with
 | .binOp .eql t x (.const (.slice none 0 0)) _ => if J0l Γ t then (K25 H (Jcq cur x)).map fun p => (p, false) else none
 | .binOp .neq t x (.const (.slice none 0 0)) _ => if J0l Γ t then (K25 H (Jcq cur x)).map fun p => (p, true) else none
 | _ => none
def xop (Γ : Gam) (orc : Joq) (call : Jej R) (o : Oper) (nid : Nat) (st : ASt) (kk : ASt → Option R) (kx : TypeId → ASt → Option R) : Option R :=
 match Jv2 orc st.cur o.op with
 | some (g, as) => call g as st (fun v st' => kk { st' with cur := Jc0 st'.cur o.dst v }) kx
 | none => match Kw8 Γ o.op st.cur st.heap with
  | some ((may, non), neg) =>
   let way (b : Bool) : Option R := kk { st with cur := Jc0 st.cur o.dst (.dat .bool (b != neg)) }
   bif may then (bif non then J67 (way true) (way false) else way true) else way false
  | none => match K93 o.op st.cur st.heap with
   | some (c, a, b) =>
    let way (x : AV × Upd) : Option R := kk { st with cur := Jc0 st.cur o.dst x.1, heap := upd st.heap x.2 }
    bif c then way a else way b
   | none => match Qn5 st.cur o.op with
   | some (fs, i, as) => Jtz call as st (fun v st' => kk { st' with cur := Jc0 st'.cur o.dst v }) kx i fs 0
   | none => match Jl0 false Γ orc o.op st.cur st.heap nid with
   | some (c, v, U) => bif c then kk { st with cur := Jc0 st.cur o.dst v, heap := upd st.heap U } else none
   | none => match K92 st.cur o.op with
    | some t => kx t st
    | none => none
def Jh8 (ops : List Oper) (cur : List AV) (j : Nat) : Option (Nat × Bool) :=
 match (ops[j]?).bind (·.dst) with
 | some d => match cur.getD d .dead with
  | .dat .bool b => some (d, b)
  | _ => none
 | none => none
abbrev und : AV := .tup .un
def Qk0 : AV → Bool
 | .tup .un => true
 | _ => false
def Jos (all : List Oper) (cur : List AV) (o : Oper) : Bool :=
 match o.guard with
 | some (j, _) => match (all[j]?).bind (·.dst) with
  | some d => Qk0 (cur.getD d .dead)
  | none => false
 | none => false
def Qnx (Γ : Gam) (orc : Joq) (call : Jej R) (o : Oper) (st : ASt) (kk : ASt → Option R) (kx : TypeId → ASt → Option R) : Option R :=
 xop Γ orc call o st.heap.length { st with heap := st.heap ++ List.replicate (Jh7 orc o.op) .free } kk kx
def J9s (Γ : Gam) (orc : Joq) (call : Jej R) (all : List Oper) : List Oper → ASt → (ASt → Option R) → (TypeId → ASt → Option R) → Option R
 | [], st, k, _ => k st
 | o :: rest, st, k, kx =>
  bif Jos all st.cur o then J9s Γ orc call all rest { st with cur := Jc0 st.cur o.dst und } k kx else
  match o.guard with
  | none => Qnx Γ orc call o st (fun st' => J9s Γ orc call all rest st' k kx) kx
  | some (j, want) => match Jh8 all st.cur j with
   | none => none
   | some (d, b) =>
    let way (v : Bool) : Option R :=
     let st1 := { st with cur := st.cur.set d (.dat .bool v) }
     if v == want then Qnx Γ orc call o st1 (fun st' => J9s Γ orc call all rest st' k kx) kx
     else J9s Γ orc call all rest { st1 with cur := Jc0 st1.cur o.dst und } k kx
    bif b then way true else way false
structure FP where
 rd : List Nat
 wr : List Nat
 deriving Inhabited
def J0m (cur : List AV) (o : Op) : List Nat :=
 match o with
 | .move _ => []
 | .assign _ => []
 | o => o.operands.toList.flatMap fun x => (Jcq cur x).refs
def Kw3 (orc : Joq) (o : Oper) (cur : List AV) (nid : Nat) (U : Upd) : FP :=
 ⟨J0m cur o.op ++ (List.range (Jh7 orc o.op)).map (nid + ·), U.map (·.1)⟩
def FP.indep (a b : FP) : Bool := (a.wr.all fun x => !(b.rd.contains x || b.wr.contains x)) && b.wr.all fun x => !a.rd.contains x
def Jor (Γ : Gam) (orc : Joq) (all : List Oper) : List Oper → Nat → List AV → List Jaj → List FP → (List AV → List Jaj → List FP → Option R) → Option R
 | [], _, cur, H, fps, k => k cur H fps
 | o :: rest, nid, cur, H, fps, k =>
  let go (cur : List AV) : Option R := match Jl0 true Γ orc o.op cur H nid with
   | some (c, v, U) => bif c then Jor Γ orc all rest (nid + Jh7 orc o.op) (Jc0 cur o.dst v) (upd H U) (fps ++ [Kw3 orc o cur nid U]) k else none
   | none => none
  bif Jos all cur o then Jor Γ orc all rest (nid + Jh7 orc o.op) (Jc0 cur o.dst und) H (fps ++ [⟨[], []⟩]) k else
  match o.guard with
  | none => go cur
  | some (j, want) => match Jh8 all cur j with
   | none => none
   | some (d, b) =>
    let way (v : Bool) : Option R :=
     let cur1 := cur.set d (.dat .bool v)
     if v == want then go cur1
     else Jor Γ orc all rest (nid + Jh7 orc o.op) (Jc0 cur1 o.dst und) H (fps ++ [⟨[], []⟩]) k
    bif b then way true else way false
def Jpm (all : List Oper) (o : Oper) : List Tmp :=
  (o.op.operands.toList.filterMap fun | .tmp t => some t | _ => none) ++
  (match o.guard with
   | some (g, _) => ((all[g]?).bind (·.dst)).toList
   | none => [])
def apart (all : List Oper) (x y : Oper) : Bool :=
  (match x.dst with
   | some d => !(Jpm all y).contains d && y.dst != some d
   | none => true) &&
  (match y.dst with
   | some d => !(Jpm all x).contains d
   | none => true)
def Jfx : List Oper → List Nat → List Nat
 | [], acc => acc
 | o :: r, acc => Jfx r (acc ++ [o.after.toList.foldl (fun s e => if Region.binds .any e then s ||| 2 ^ e.on ||| acc.getD e.on 0 else s) 0])
def Kkt (b : Nat) (ops : List Oper) (bs : List Nat) (fps : List FP) : Bool :=
 (List.range b).all fun j => (List.range j).all fun i =>
  (bs.getD j 0).testBit i || (apart ops (ops.getD i default) (ops.getD j default) && (fps.getD i default).indep (fps.getD j default))
def Jy0 (ops : List Oper) : Bool :=
 (List.range ops.length).all fun j =>
  (ops.getD j default).after.toList.all fun e => !Region.binds .any e || decide (e.on < j)
def Qk1 (o : Oper) : Bool :=
 match o.op with
 | .call { callee := .value (.tmp _), .. } => true
 | _ => false
def Jx6 (b : Nat) (ops : List Oper) : Bool :=
 decide (b < ops.length) && ((List.range b).all fun i => ((Jfx ops []).getD b 0).testBit i) &&
 (List.range ops.length).all fun j => decide (j ≤ b) || (ops.getD j default).after.toList.any fun e => Region.binds .any e && decide (e.on + 1 = j)
def K26 (ops : List Oper) : Bool :=
 match ops.getLast? with
 | some { op := .call { callee := .value _, .. }, type := t, .. } => Nat.beq t 0
 | _ => false
def Jp0 (ops : List Oper) : Nat :=
 match ops.findIdx? Qk1 with
 | some b => bif Jx6 b ops then b else ops.length
 | none => bif K26 ops && Jx6 (ops.length - 1) ops then ops.length - 1 else ops.length
structure Kpm where
 keep : Option (List Nat) := none
 keeps : List (Nat × List Nat) := []
 own : List (Nat × TypeId) := []
 stk : List (List Nat) := []
 dat : List (Nat × TypeId) := []
 fz : List (Nat × List Nat) := []
 ownb : List (Nat × Nat × TypeId) := []
 rg : List (Nat × List (Nat × TypeId)) := []
 rgb : List (Nat × List (Nat × Nat × TypeId)) := []
 deriving Inhabited
def Jgi (ks : List Nat) (cur : List AV) : List AV := cur.zipIdx.map fun x => if ks.contains x.2 then x.1 else .dead
def Kku : List (List Nat) → List (List AV) → List (List AV)
 | ks :: kss, f :: fs => Jgi ks f :: Kku kss fs
 | _, fs => fs
def Jy1 (body : ASt → (Jhi → ASt → Option R) → Option R) (norm : ASt → ASt) : Nat → ASt → (Jhi → ASt → Option R) → Option R
 | 0, _, _ => none
 | n + 1, st, k => body st fun e st' => match e with
  | .normal => Jy1 body norm n (norm st') k
  | e => k e (norm st')
end
end Go.AI
namespace Go.AI
open Go Go.RowKit
def K52.refs : K52 → List Nat
 | .lp _ _ fr _ => fr.flatMap AV.refs
 | _ => []
def Jaj.refs : Jaj → List Nat
 | .box v => v.refs
 | .oth x => x.refs
 | _ => []
def Qg8 (H : List Jaj) : Nat → List Nat → List Nat → List Nat
 | 0, _, seen => seen
 | _, [], seen => seen
 | n + 1, o :: todo, seen => if seen.contains o then Qg8 H n todo seen else Qg8 H n ((ASt.obj H o).refs ++ todo) (seen ++ [o])
def AV.rename (f : Nat → Option Nat) : AV → AV
 | .row o => match f o with | some i => .row i | none => .dead
 | .sl o a n => match f o with | some i => .sl i a n | none => .dead
 | .ptr o p => match f o with | some i => .ptr i p | none => .dead
 | .pr a b => .pr (a.rename f) (b.rename f)
 | .fn g c => .fn g (c.rename f)
 | .hnd k o => match f o with | some i => .hnd k i | none => .dead
 | .mv g c => .mv g (c.rename f)
 | .tup a => .tup (a.rename f)
 | v => v
def K52.rename (f : Nat → Option Nat) : K52 → K52
 | .lp g key fr st => .lp g key (fr.map (AV.rename f)) st
 | x => x
def Jaj.rename (f : Nat → Option Nat) : Jaj → Jaj
 | .box v => .box (v.rename f)
 | .oth x => .oth (x.rename f)
 | o => o
def Js4 (l : List Nat) (o : Nat) : Option Nat := l.idxOf? o
def ASt.renumber (st : ASt) (l : List Nat) : ASt :=
 { cur := st.cur.map (AV.rename (Js4 l)), stk := st.stk.map (·.map (AV.rename (Js4 l))), heap := l.map fun o => (ASt.obj st.heap o).rename (Js4 l) }
def J53 : List Nat → Bool
 | [] => true
 | x :: l => !l.contains x && J53 l
def ASt.canon (st : ASt) : ASt :=
 let roots := st.cur.flatMap AV.refs ++ (st.stk.flatMap fun f => f.flatMap AV.refs)
 let l := Qg8 st.heap (roots.length + 16 * st.heap.length + 16) roots []
 if J53 l && roots.all (l.contains ·) && l.all (fun o => (ASt.obj st.heap o).refs.all (l.contains ·)) then st.renumber l else st
def Jv3 (Γ : Gam) : List (Nat × TypeId) → ASt → ASt
 | [], st => st
 | (i, t) :: r, st => match st.cur.getD i .dead, Γ.elem t with
  | .nils, some (E, s) => Jv3 Γ r { st with cur := st.cur.set i (.row st.heap.length), heap := st.heap ++ [.row E s [] false] }
  | .emp, some (E, s) => Jv3 Γ r { st with cur := st.cur.set i (.row st.heap.length), heap := st.heap ++ [.row E s [] false] }
  | _, _ => Jv3 Γ r st
def Jre (Γ : Gam) : List (Nat × TypeId) → ASt → ASt
 | [], st => st
 | (i, t) :: r, st => match Γ.sch t with
  | some s => match Jj3 st.heap s (st.cur.getD i .dead) with
   | some (y, U) => Jre Γ r { st with cur := st.cur.set i (.dat s y), heap := upd st.heap U }
   | none => Jre Γ r st
  | none => Jre Γ r st
def Jl1 (Γ : Gam) : List (Nat × Nat × TypeId) → ASt → ASt
 | [], st => st
 | (i, k, t) :: r, st => match st.cur.getD i .dead, Γ.elem t with
  | .ptr o [], some (E, s) => match ASt.obj st.heap o with
   | .box (.pr a b) => match (AV.pr a b).comp k, (AV.pr a b).lay.comp k, (AV.pr a b).setComp k (.row st.heap.length) with
    | .nils, some _, some (.pr a' b') => Jl1 Γ r { st with heap := (st.heap ++ [Jaj.row E s [] false]).set o (.box (.pr a' b')) }
    | _, _, _ => Jl1 Γ r st
   | .box .nils => Jl1 Γ r { st with heap := (st.heap ++ [Jaj.row E s [] false]).set o (.box (.row st.heap.length)) }
   | _ => Jl1 Γ r st
  | _, _ => Jl1 Γ r st
def Qn6 (Γ : Gam) (ks : List Nat) (h : Kpm) (st : ASt) : ASt :=
 (Jl1 Γ h.ownb (Jv3 Γ h.own (Jre Γ h.dat { st with cur := Jgi ks st.cur, stk := Kku h.stk st.stk }))).canon
def K94 (l : List Operand) : List Nat := l.filterMap fun | .tmp t => some t | _ => none
def J9t : List Oper → List Nat → List Nat
 | [], _ => []
 | o :: r, w => (K94 o.op.operands.toList).filter (!w.contains ·) ++ J9t r (o.dst.toList ++ w)
def Jdu : Code → List Nat
 | .region _ ops _ => J9t ops.toList []
 | .seq a b => Jdu a ++ Jdu b
 | .cond c a b => K94 [c] ++ Jdu a ++ Jdu b
 | .block _ b => Jdu b
 | .loop b => Jdu b
 | .rangeFunc f _ a b => K94 [f] ++ Jdu a ++ Jdu b
 | .scope b => Jdu b
 | _ => []
def Qg9 : ResultVar → Nat
 | .tmp t => t
 | .cell t _ => t
def Jdr : Code → Option Nat
 | .region id _ _ => some id
 | .seq a b => (Jdr a).or (Jdr b)
 | .cond _ a b => (Jdr a).or (Jdr b)
 | .block _ b => Jdr b
 | .loop b => (Jdr b).map (· + 1000)
 | .scope b => Jdr b
 | .rangeFunc _ _ a b => (Jdr a).or (Jdr b)
 | _ => none
def Jc9 (body : Code) : Nat := (Jdr body).getD 999
def J8d (assign body : Code) : Nat := ((Jdr assign).or (Jdr body)).getD 999
def Jb2 : Code → List (Nat × Array Tmp × Code × Code)
 | .seq a b => Jb2 a ++ Jb2 b
 | .cond _ a b => Jb2 a ++ Jb2 b
 | .block _ b => Jb2 b
 | .loop b => Jb2 b
 | .rangeFunc _ ps a b => [(J8d a b, ps, a, b)]
 | _ => []
def Jdv (P : Program) (f : FuncId) : Code := ((P.funcs[f]?).bind (·.body)).getD .skip
def Jrf (P : Program) (f : FuncId) (key : Nat) : Option (Array Tmp × Code × Code) := ((Jb2 (Jdv P f)).find? fun x => Nat.beq x.1 key).map (·.2)
def Qjz (h : Kpm) (key : Nat) (ks : List Nat) : List Nat := match h.keeps.lookup key with
 | some l => l
 | none => ks
def J3w : List Nat → ASt → ASt
 | [], st => st
 | i :: r, st => match st.cur.getD i .dead with
  | .hnd .map o => match ASt.obj st.heap o with
   | .oth (.mps k v _ ks s m none) => J3w r { st with heap := st.heap.set o (.oth (.mp k v ks (.slc s) m)) }
   | _ => J3w r st
  | _ => J3w r st
def fzAt (h : Kpm) (key : Nat) : List Nat := match h.fz.lookup key with
 | some l => l
 | none => []
def rgAt (h : Kpm) (key : Nat) : List (Nat × TypeId) := match h.rg.lookup key with
 | some l => l
 | none => []
def Qn7 (h : Kpm) (key : Nat) : List (Nat × Nat × TypeId) := match h.rgb.lookup key with
 | some l => l
 | none => []
def Jfy (Γ : Gam) (ks : List Nat) (h : Kpm) (key : Nat) (st : ASt) : ASt :=
 bif Nat.ble 5000 key then Jl1 Γ (Qn7 h key) (Jre Γ (rgAt h key) st) else Qn6 Γ (Qjz h key ks) h (J3w (fzAt h key) st)
def Jk3 (h : Kpm) (fn : Func) (c : Code) : List Nat :=
 match h.keep with
 | some l => l
 | none => (Jdu c).eraseDups ++ fn.results.toList.map Qg9
section
variable {R : Type}
def pad (orc : Joq) (ops : List Oper) (H : List Jaj) : List Jaj := H ++ List.replicate (Jrd orc ops) .free
def Jt0 (me : FuncId) (key : Nat) (keep : List Nat) (st : ASt) : ASt :=
 { cur := [.hnd .yield st.heap.length], stk := st.cur :: st.stk, heap := st.heap ++ [.oth (.lp me key (Jgi keep st.cur) .ready)] }
def Jrg (st : ASt) (k : Jhi → ASt → Option R) : Option R :=
 match st.cur, st.stk with
 | [.hnd .yield o], c0 :: stk => match ASt.obj st.heap o with
  | .oth (.lp _ _ _ .ready) => k .normal { cur := c0, stk := stk, heap := st.heap.set o .gone }
  | .oth (.lp _ _ _ (.done (.exit id))) => k (.exit id) { cur := c0, stk := stk, heap := st.heap.set o .gone }
  | .oth (.lp _ _ _ (.done .ret)) => k .ret { cur := c0, stk := stk, heap := st.heap.set o .gone }
  | _ => none
 | _, _ => none
def K27 : List AV → List Nat → List AV → List AV
 | cur, p :: ps, v :: vs => K27 (cur.set p v) ps vs
 | cur, _, _ => cur
def K95 (o : Nat) (fr : List AV) (ps : List Nat) (args : List AV) (st : ASt) : ASt :=
 { cur := K27 fr ps args, stk := [.hnd .yield o] :: st.cur :: st.stk, heap := st.heap }
def Jv4 (s s' : LSt) (st : ASt) : Option ASt :=
 match st.stk with
 | [.hnd .yield o] :: _ => match ASt.obj st.heap o with
  | .oth (.lp f key fr t) => if t = s then some { st with heap := st.heap.set o (.oth (.lp f key fr s')) } else none
  | _ => none
 | _ => none
def Jrh (e : Jhi) (st : ASt) (kk : AV → ASt → Option R) : Option R :=
 match Jv4 .busy (match e with | .normal => .ready | e => .done e) st with
 | some st' => match st'.stk with
  | _ :: c0 :: stk => kk (.dat .bool (match e with | .normal => true | _ => false)) { cur := c0, stk := stk, heap := st'.heap }
  | _ => none
 | none => none
def Jt1 (Γ : Gam) (orc : Joq) (call : Jej R) (me : FuncId) (head : Nat → ASt → ASt) (F : Nat) : Code → ASt → (Jhi → ASt → Option R) → Option R
 | .skip, st, k => k .normal st
 | .region id ops draw, st, k =>
  if draw then
   if Jy0 ops.toList then
    (fun st : ASt => Jor Γ orc ops.toList (ops.toList.take (Jp0 ops.toList)) st.heap.length st.cur (pad orc (ops.toList.take (Jp0 ops.toList)) st.heap) [] fun cur H fps =>
     if Kkt (Jp0 ops.toList) ops.toList (Jfx ops.toList []) fps then J9s Γ orc call ops.toList (ops.toList.drop (Jp0 ops.toList)) { st with cur := cur, heap := H } (k .normal) (fun t => k (.panic t)) else none) (head (5000 + id) st)
   else none
  else J9s Γ orc call ops.toList ops.toList (head (5000 + id) st) (k .normal) (fun t => k (.panic t))
 | .seq a b, st, k => Jt1 Γ orc call me head F a st fun e st' => match e with
  | .normal => Jt1 Γ orc call me head F b st' k
  | e => k e st'
 | .cond c a b, st, k => match Jcq st.cur c with
  | .dat .bool x => bif x then Jt1 Γ orc call me head F a st k else Jt1 Γ orc call me head F b st k
  | _ => none
 | .block id body, st, k => Jt1 Γ orc call me head F body st fun e st' => match e with
  | .exit i => if i = id then k .normal st' else k (.exit i) st'
  | e => k e st'
 | .loop body, st, k => Jy1 (fun st k => Jt1 Γ orc call me head F body st k) (head (Jc9 body)) F (head (Jc9 body) st) k
 | .exit id, st, k => k (.exit id) st
 | .ret, st, k => k .ret st
 | .label _, st, k => k .normal st
 | .rangeFunc f _ assign body, st, k => match Jcq st.cur f with
  | .fn g caps => match unchain caps with
   | some cs => if (Jb2 assign).isEmpty && (Jb2 body).isEmpty then
     call (.inl g) (.hnd .yield st.heap.length :: cs) (Jt0 me (J8d assign body) (Jdu assign ++ Jdu body) st) (fun _ st' => Jrg st' k) (fun _ _ => none)
    else none
   | none => none
  | _ => none
 | _, _, _ => none
def Qk2 (Γ : Gam) (H : List Jaj) (cur : List AV) : ResultVar → Option AV
 | .tmp t => some (cur.getD t .dead)
 | .cell a t => match Kpp Γ t (cur.getD a .dead) H with
  | some (true, v, []) => some v
  | _ => none
def J0n (Γ : Gam) (H : List Jaj) (cur : List AV) : List ResultVar → Option (List AV)
 | [] => some []
 | r :: rs => match Qk2 Γ H cur r, J0n Γ H cur rs with
  | some v, some vs => if v.isTup then none else some (v :: vs)
  | _, _ => none
def J3x (Γ : Gam) (orc : Joq) (call : Jej R) (me : FuncId) (h : Kpm) (F : Nat) (fn : Func) (args : List AV) (st : ASt) (kk : List AV → ASt → Option R) (kx : TypeId → ASt → Option R) : Option R :=
 match fn.body with
 | none => none
 | some c =>
  if args.length ≤ fn.ntmps then
   Jt1 Γ orc call me (Jfy Γ (Jk3 h fn c) h) F c { cur := args ++ List.replicate (fn.ntmps - args.length) .dead, stk := st.cur :: st.stk, heap := st.heap } fun e st' =>
    let fin : Option R := match st'.stk with
     | c0 :: stk => match J0n Γ st'.heap st'.cur fn.results.toList with
      | some vs => kk vs { cur := c0, stk := stk, heap := st'.heap }
      | none => none
     | [] => none
    match e with
    | .exit _ => none
    | .normal => fin
    | .ret => fin
    | .panic t => match st'.stk with
     | c0 :: stk => kx t { cur := c0, stk := stk, heap := st'.heap }
     | [] => none
  else none
structure Rcv where
 clo : FuncId
 ncap : Nat
 pan : TypeId
 sto : List (Nat × TypeId × Option Bool)
def Qn8 : Option Bool → AV
 | none => .nils
 | some b => .dat .bool b
def J8e (Γ : Gam) : List (Nat × TypeId × Option Bool) → List AV → List Jaj → Option (List Jaj)
 | [], _, H => some H
 | (i, t, x) :: r, cs, H => match J9q Γ t (cs.getD i .dead) (Qn8 x) H with
  | some (true, _, U) => J8e Γ r cs (upd H U)
  | _ => none
def Kw9 : Code → Option (Code × Nat × Array Oper × Oper × Oper × Code)
 | .seq a (.seq (.region id ops false) b) => match ops.toList with
  | [o, d] => match o.guard, d.guard, d.dst with
   | none, none, none => some (a, id, ops, o, d, b)
   | _, _, _ => none
  | _ => none
 | _ => none
theorem Kho {c a b : Code} {id : Nat} {ops : Array Oper} {o d : Oper} (h : Kw9 c = some (a, id, ops, o, d, b)) : c = .seq a (.seq (.region id ops false) b) ∧ ops.toList = [o, d] ∧ o.guard = none ∧ d.guard = none ∧ d.dst = none := by
 unfold Kw9 at h
 split at h
 ·rename_i a' id' ops' b'
  split at h
  ·rename_i o' d' hl
   split at h
   ·rename_i h1 h2 h3
    cases h
    exact ⟨rfl, hl, h1, h2, h3⟩
   ·cases h
  ·cases h
 ·cases h
def Kkv (d : Oper) (cur : List AV) : Option (FuncId × List AV) :=
 match d.op with
 | .defer { callee := .value f, args, .. } => if args.isEmpty then match Jcq cur f with
   | .fn g caps => (unchain caps).map fun cs => (g, cs)
   | _ => none
  else none
 | _ => none
def J0o (Γ : Gam) (fn : Func) (H : List Jaj) (cur : List AV) (c0 : List AV) (stk : List (List AV)) (kk : List AV → ASt → Option R) : Option R :=
 match J0n Γ H cur fn.results.toList with
 | some vs => kk vs { cur := c0, stk := stk, heap := H }
 | none => none
def Kpq (Γ : Gam) (fn : Func) (rc : Rcv) (kk : List AV → ASt → Option R) (e : Jhi) (st : ASt) : Option R :=
 match st.stk with
 | cs :: c0 :: stk => match e with
  | .normal => J0o Γ fn st.heap st.cur c0 stk kk
  | .ret => J0o Γ fn st.heap st.cur c0 stk kk
  | .panic t => bif Nat.beq t rc.pan then match J8e Γ rc.sto cs st.heap with
    | some H => J0o Γ fn H st.cur c0 stk kk
    | none => none
   else none
  | .exit _ => none
 | _ => none
def J0p (Γ : Gam) (orc : Joq) (call : Jej R) (ex : Code → ASt → (Jhi → ASt → Option R) → Option R) (fn : Func) (c : Code) (rc : Rcv) (args : List AV) (st : ASt) (kk : List AV → ASt → Option R) : Option R :=
 match Kw9 c with
 | none => none
 | some (a, _, _, o, d, b) =>
  if args.length ≤ fn.ntmps then
   ex a { cur := args ++ List.replicate (fn.ntmps - args.length) .dead, stk := st.cur :: st.stk, heap := st.heap } fun e st1 => match e with
    | .normal => Qnx Γ orc call o st1 (fun st2 => match Kkv d st2.cur with
      | some (g, cs) => bif Nat.beq g rc.clo && Nat.beq cs.length rc.ncap then ex b { st2 with stk := cs :: st2.stk } (Kpq Γ fn rc kk) else none
      | none => none) (fun _ _ => none)
    | _ => none
  else none
def J0q (P : Program) (Γ : Gam) (orc : Joq) (call : Jej R) (hint : FuncId → Kpm) (F : Nat) (o : Nat) (args : List AV) (st : ASt) (kk : AV → ASt → Option R) : Option R :=
 match ASt.obj st.heap o with
 | .oth (.lp f key fr .ready) => match P.funcs[f]?, Jrf P f key with
  | some fn, some (ps, assign, body) => if args.length = ps.size ∧ args.all (fun v => !v.isTup) = true then
    let hd := Jfy Γ (Jk3 (hint f) fn (Jdv P f)) (hint f)
    Jt1 Γ orc call f hd F assign (K95 o fr ps.toList args st) fun e st' => match e with
     | .normal => match Jv4 .ready .busy st' with
      | some st2 => Jt1 Γ orc call f hd F body st2 fun e st3 => match e with
       | .panic _ => none
       | e => Jrh e st3 kk
      | none => none
     | _ => none
   else none
  | _, _ => none
 | _ => none
structure Book where
 Γ : Gam
 orc : Joq
 hint : FuncId → Kpm := fun _ => {}
 rcv : FuncId → Option Rcv := fun _ => none
def Ke4 (P : Program) (B : Book) (F : Nat) : Nat → Jej R
 | 0 => fun _ _ _ _ _ => none
 | d + 1 => fun g args st kk kx => match g with
  | .inl f => match P.funcs[f]? with
   | some fn => match B.rcv f, fn.body with
    | some rc, some c => J0p B.Γ B.orc (Ke4 P B F d) (Jt1 B.Γ B.orc (Ke4 P B F d) f (Jfy B.Γ (Jk3 (B.hint f) fn c) (B.hint f)) F) fn c rc args st (fun vs st' => kk (Khn vs) st')
    | _, _ => J3x B.Γ B.orc (Ke4 P B F d) f (B.hint f) F fn args st (fun vs st' => kk (Khn vs) st') kx
   | none => none
  | .inr o => J0q P B.Γ B.orc (Ke4 P B F d) B.hint F o args st kk
end
def Jm6 : List BV → List Jaj → List AV × List Jaj
 | [], H => ([], H)
 | .d s x :: bs, H => (.dat s x :: (Jm6 bs H).1, (Jm6 bs H).2)
 | .o E s xs :: bs, H => (.row H.length :: (Jm6 bs (H ++ [.row E s xs false])).1, (Jm6 bs (H ++ [.row E s xs false])).2)
 | .f g :: bs, H => (.fn g .un :: (Jm6 bs H).1, (Jm6 bs H).2)
def Qha {R : Type} (P : Program) (B : Book) (F d : Nat) (f : FuncId) (args : List BV) (ms : List PM) (kend : List BV → Option R) : Option R :=
 match P.funcs[f]? with
 | some fn => J3x B.Γ B.orc (Ke4 P B F d) f (B.hint f) F fn (Jm6 args []).1 { cur := [], stk := [], heap := (Jm6 args []).2 } (fun rs st =>
   match Jj0 false st.heap ms rs with
   | some (bs, U) => if Jrc U rs then kend bs else none
   | none => none) (fun _ _ => none)
 | none => none
end Go.AI
