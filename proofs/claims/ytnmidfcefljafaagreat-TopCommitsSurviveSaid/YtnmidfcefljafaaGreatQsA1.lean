/- Texts of the proof, joined: A1. Names of our own are shortened by program; the long ones stand in wip/. -/
import Derived.WalkKit
import Derived.ProofKit
namespace Go.AI
open Go Go.RowKit
inductive Sch where
 | int (k : IntKind)
 | bool
 | str
 | slc (s : Sch)
 | arr (n : Nat) (s : Sch)
 | pair (a b : Sch)
 | unit
 deriving DecidableEq, Inhabited
@[reducible] def IT : IntKind → Type
 | .u8 => UInt8
 | .u32 => UInt32
 | _ => Int
def toI : (k : IntKind) → IT k → Int
 | .u8, x => (x.toNat : Int)
 | .u32, x => (x.toNat : Int)
 | .i8, x => x
 | .i16, x => x
 | .i32, x => x
 | .i64, x => x
 | .u16, x => x
 | .u64, x => x
def ofI : (k : IntKind) → Int → IT k
 | .u8, x => UInt8.ofNat x.toNat
 | .u32, x => UInt32.ofNat x.toNat
 | .i8, x => x
 | .i16, x => x
 | .i32, x => x
 | .i64, x => x
 | .u16, x => x
 | .u64, x => x
@[reducible] def Sch.T : Sch → Type
 | .int k => IT k
 | .bool => Bool
 | .str => List UInt8
 | .slc s => List s.T
 | .arr _ s => List s.T
 | .pair a b => a.T × b.T
 | .unit => Unit
def Sch.cells : Sch → Nat
 | .arr n s => n * s.cells
 | .pair a b => a.cells + b.cells
 | .unit => 0
 | _ => 1
def Sch.agg : Sch → Bool
 | .arr _ _ => true
 | .pair _ _ => true
 | .unit => true
 | _ => false
def Sch.dflt : (s : Sch) → s.T
 | .int k => ofI k 0
 | .bool => false
 | .str => []
 | .slc _ => []
 | .arr n s => List.replicate n s.dflt
 | .pair a b => (a.dflt, b.dflt)
 | .unit => ()
def Jbi {α : Type} (R : α → List Value → Prop) : List α → List Value → Prop
 | [], cs => cs = []
 | x :: xs, cs => ∃ c r, cs = c ++ r ∧ R x c ∧ Jbi R xs r
def Jee (w : World) (ad : Addr) (L : List Value) : Prop := ∀ j u, L[j]? = some u → w.cell? (ad.add j) = some u
def Jap (w : World) (A : Nat → Prop) : (s : Sch) → s.T → List Value → Prop
 | .int k, x, cs => cs = [.int k (toI k x)] ∧ (Lit.int k (toI k x)).wf = true
 | .bool, x, cs => cs = [.bool x]
 | .str, x, cs => cs = [.string ⟨x.toArray⟩] ∧ x.length ≤ maxLen
 | .slc s, xs, cs => ∃ a cap, cs = [.slice a xs.length cap] ∧ xs.length ≤ cap ∧ cap ≤ maxLen ∧
   (xs = [] ∨ ∃ ad L, a = some ad ∧ ad.block < w.heap.size ∧ ¬ A ad.block ∧ Jbi (Jap w A s) xs L ∧ Jee w ad L)
 | .arr n s, xs, cs => xs.length = n ∧ Jbi (Jap w A s) xs cs
 | .pair a b, x, cs => ∃ c r, cs = c ++ r ∧ Jap w A a x.1 c ∧ Jap w A b x.2 r
 | .unit, _, cs => cs = []
section Jbi
variable {α : Type} {R : α → List Value → Prop} {n : Nat}
theorem Jbi.length (hR : ∀ x c, R x c → c.length = n) : ∀ {xs : List α} {L : List Value}, Jbi R xs L → L.length = xs.length * n
 | [], L, h => by simp [Jbi] at h; simp [h]
 | x :: xs, L, h => by
  obtain ⟨c, r, rfl, hc, hr⟩ := h
  simp only [List.length_append, hR x c hc, Jbi.length hR hr, List.length_cons, Nat.add_mul, Nat.one_mul]
  omega
theorem Jbi.mono {R' : α → List Value → Prop} (hR : ∀ x c, R x c → R' x c) : ∀ {xs : List α} {L : List Value}, Jbi R xs L → Jbi R' xs L
 | [], _, h => h
 | _ :: _, _, ⟨c, r, e, hc, hr⟩ => ⟨c, r, e, hR _ _ hc, Jbi.mono hR hr⟩
theorem Jbi.append : ∀ {xs ys : List α} {L M : List Value}, Jbi R xs L → Jbi R ys M → Jbi R (xs ++ ys) (L ++ M)
 | [], _, _, _, h, k => by simp [Jbi] at h; simpa [h] using k
 | _ :: _, _, _, _, ⟨c, r, e, hc, hr⟩, k => ⟨c, r ++ _, by simp [e], hc, Jbi.append hr k⟩
theorem Jbi.split : ∀ {xs ys : List α} {L : List Value}, Jbi R (xs ++ ys) L → ∃ M N, L = M ++ N ∧ Jbi R xs M ∧ Jbi R ys N
 | [], _, L, h => ⟨[], L, by simp, by simp [Jbi], h⟩
 | _ :: _, _, _, ⟨c, r, e, hc, hr⟩ => by
  obtain ⟨M, N, rfl, hM, hN⟩ := Jbi.split hr
  exact ⟨c ++ M, N, by simp [e], ⟨c, M, rfl, hc, hM⟩, hN⟩
theorem Jbi.take (hR : ∀ x c, R x c → c.length = n) {xs : List α} {L : List Value} (h : Jbi R xs L) (k : Nat) : Jbi R (xs.take k) (L.take (k * n)) := by
 rw [← List.take_append_drop k xs] at h
 obtain ⟨M, N, rfl, hM, hN⟩ := Jbi.split h
 have hl := Jbi.length hR hM
 by_cases hk : k ≤ xs.length
 ·have : M.length = k * n := by rw [hl, List.length_take, Nat.min_eq_left hk]
  rw [← this, List.take_left]; exact hM
 ·have hN' : xs.drop k = [] := List.drop_eq_nil_of_le (by omega)
  rw [hN'] at hN
  simp [Jbi] at hN
  subst hN
  have : M.length ≤ k * n := by rw [hl, List.length_take]; exact Nat.mul_le_mul_right _ (by omega)
  rw [List.append_nil, List.take_of_length_le this]; exact hM
theorem Jbi.drop (hR : ∀ x c, R x c → c.length = n) {xs : List α} {L : List Value} (h : Jbi R xs L) (k : Nat) : Jbi R (xs.drop k) (L.drop (k * n)) := by
 rw [← List.take_append_drop k xs] at h
 obtain ⟨M, N, rfl, hM, hN⟩ := Jbi.split h
 have hl := Jbi.length hR hM
 by_cases hk : k ≤ xs.length
 ·have : M.length = k * n := by rw [hl, List.length_take, Nat.min_eq_left hk]
  rw [← this, List.drop_left]; exact hN
 ·have hN' : xs.drop k = [] := List.drop_eq_nil_of_le (by omega)
  rw [hN'] at hN ⊢
  simp [Jbi] at hN
  subst hN
  have : M.length ≤ k * n := by rw [hl, List.length_take]; exact Nat.mul_le_mul_right _ (by omega)
  rw [List.append_nil, List.drop_eq_nil_of_le this]; simp [Jbi]
theorem Jbi.one {x : α} {c : List Value} (h : R x c) : Jbi R [x] c := ⟨c, [], by simp, h, rfl⟩
theorem Jbi.of_one {x : α} {c : List Value} (h : Jbi R [x] c) : R x c := by
 obtain ⟨c', r, rfl, hc, hr⟩ := h
 simp [Jbi] at hr; subst hr; simpa using hc
theorem Jbi.at_ (hR : ∀ x c, R x c → c.length = n) {xs : List α} {L : List Value} (h : Jbi R xs L) {i : Nat} {x : α} (hi : xs[i]? = some x) :
  R x ((L.drop (i * n)).take n) := by
 have hlt : i < xs.length := by
  rcases Nat.lt_or_ge i xs.length with h' | h'
  ·exact h'
  ·rw [List.getElem?_eq_none h'] at hi; cases hi
 have h1 := Jbi.take hR (Jbi.drop hR h i) 1
 have e : (xs.drop i).take 1 = [x] := by
  rw [List.drop_eq_getElem_cons hlt]
  rw [List.getElem?_eq_getElem hlt] at hi
  injection hi with hi
  simp [hi]
 rw [e, Nat.one_mul] at h1
 exact Jbi.of_one h1
theorem Jbi.set (hR : ∀ x c, R x c → c.length = n) {xs : List α} {L : List Value} (h : Jbi R xs L) {i : Nat} (hi : i < xs.length) {y : α} {c : List Value} (hy : R y c) :
  Jbi R (xs.set i y) (L.take (i * n) ++ c ++ L.drop (i * n + n)) := by
 have h1 := Jbi.take hR h i
 have h2 := Jbi.drop hR h (i + 1)
 rw [List.set_eq_take_append_cons_drop, if_pos hi, List.append_assoc]
 refine Jbi.append h1 ⟨c, _, rfl, hy, ?_⟩
 rwa [Nat.add_mul, Nat.one_mul] at h2
theorem Jbi.cells {P : Value → Prop} (hR : ∀ x c, R x c → ∀ u ∈ c, P u) : ∀ {xs : List α} {L : List Value}, Jbi R xs L → ∀ u ∈ L, P u
 | [], L, h => by simp [Jbi] at h; simp [h]
 | x :: xs, L, h => by
  obtain ⟨c, r, rfl, hc, hr⟩ := h
  intro u hu
  rcases List.mem_append.1 hu with hu | hu
  ·exact hR x c hc u hu
  ·exact Jbi.cells hR hr u hu
end Jbi
theorem Jap.length {w : World} {A : Nat → Prop} : ∀ (s : Sch) {x : s.T} {c : List Value}, Jap w A s x c → c.length = s.cells
 | .int k, _, _, h => by obtain ⟨rfl, _⟩ := h; rfl
 | .bool, _, _, h => by simp [Jap] at h; simp [h, Sch.cells]
 | .str, _, _, h => by obtain ⟨rfl, _⟩ := h; rfl
 | .slc s, _, _, h => by obtain ⟨a, cap, rfl, _⟩ := h; rfl
 | .arr n s, xs, c, h => by
  obtain ⟨hl, hr⟩ := h
  rw [Jbi.length (fun x c => Jap.length s) hr, hl]; rfl
 | .pair a b, x, _, h => by
  obtain ⟨c, r, rfl, h1, h2⟩ := h
  rw [List.length_append, Jap.length a h1, Jap.length b h2]; rfl
 | .unit, _, _, h => by simp [Jap] at h; simp [h, Sch.cells]
theorem Jap.oneCell {w : World} {A : Nat → Prop} : ∀ (s : Sch) {x : s.T} {c : List Value}, Jap w A s x c → ∀ u ∈ c, u.oneCell' = true
 | .int k, _, _, h => by obtain ⟨rfl, _⟩ := h; simp [Value.oneCell']
 | .bool, _, _, h => by simp [Jap] at h; simp [h, Value.oneCell']
 | .str, _, _, h => by obtain ⟨rfl, _⟩ := h; simp [Value.oneCell']
 | .slc s, _, _, h => by obtain ⟨a, cap, rfl, _⟩ := h; simp [Value.oneCell']
 | .arr n s, xs, c, h => Jbi.cells (fun x c hc => Jap.oneCell s hc) h.2
 | .pair a b, x, _, h => by
  obtain ⟨c, r, rfl, h1, h2⟩ := h
  intro u hu
  rcases List.mem_append.1 hu with hu | hu
  ·exact Jap.oneCell a h1 u hu
  ·exact Jap.oneCell b h2 u hu
 | .unit, _, _, h => by simp [Jap] at h; simp [h]
structure Jcl (A : Nat → Prop) (w w' : World) : Prop where
 size : w.heap.size ≤ w'.heap.size
 block : ∀ b, b < w.heap.size → ¬ A b → w'.heap[b]? = w.heap[b]?
theorem Addr.add_block (a : Addr) (j : Nat) : (a.add j).block = a.block := by unfold Addr.add; split <;> rfl
theorem Jee.keeps {A : Nat → Prop} {w w' : World} (hk : Jcl A w w') {ad : Addr} {L : List Value} (hb : ad.block < w.heap.size) (hA : ¬ A ad.block) (h : Jee w ad L) : Jee w' ad L := by
 intro j u hu
 rw [World.cell?_of_block (w := w) (by rw [Addr.add_block]; exact hk.block _ hb hA)]
 exact h j u hu
theorem Jap.keeps {A A' : Nat → Prop} {w w' : World} (hk : Jcl A w w') (hA : ∀ b, b < w.heap.size → A' b → A b) :
  ∀ (s : Sch) {x : s.T} {c : List Value}, Jap w A s x c → Jap w' A' s x c
 | .int k, _, _, h => h
 | .bool, _, _, h => h
 | .str, _, _, h => h
 | .slc s, xs, _, h => by
  obtain ⟨a, cap, rfl, h1, h2, h3⟩ := h
  refine ⟨a, cap, rfl, h1, h2, h3.imp id ?_⟩
  rintro ⟨ad, L, rfl, hb, hn, hr, hc⟩
  exact ⟨ad, L, rfl, Nat.lt_of_lt_of_le hb hk.size, fun h => hn (hA _ hb h), Jbi.mono (fun x c => Jap.keeps hk hA s) hr, hc.keeps hk hb hn⟩
 | .arr n s, xs, c, h => ⟨h.1, Jbi.mono (fun x c => Jap.keeps hk hA s) h.2⟩
 | .pair a b, x, _, h => by
  obtain ⟨c, r, rfl, h1, h2⟩ := h
  exact ⟨c, r, rfl, Jap.keeps hk hA a h1, Jap.keeps hk hA b h2⟩
 | .unit, _, _, h => h
end Go.AI
namespace Go.AI
open Go Go.RowKit
inductive HK where
 | yield
 | map
 deriving DecidableEq, Inhabited
def HK.mk : HK → Nat → Value
 | .yield, g => .func (.yield g) #[] #[]
 | .map, g => .map (some g)
inductive Jfu where
 | normal
 | exit (id : Nat)
 | ret
 | panic (t : TypeId)
 deriving DecidableEq, Inhabited
inductive LSt where
 | ready
 | busy
 | done (e : Jfu)
 deriving DecidableEq, Inhabited
inductive AV where
 /-- plain data, whose memory nobody writes -/
 | dat (s : Sch) (x : s.T)
 /-- a slice, as dat, whose capacity is its length -/
 | slx (s : Sch) (xs : List s.T)
 /-- the nil slice -/
 | nils
 /-- a slice of capacity 0 -/
 | emp
 /-- all of a row of the call's own -/
 | row (o : Nat)
 /-- a part of an object's elements -/
 | sl (o off len : Nat)
 /-- a pointer to memory that nobody writes -/
 | vptr (s : Sch) (x : s.T)
 /-- a pointer into an object -/
 | ptr (o : Nat) (p : List Nat)
 | pr (a b : AV)
 | un
 | fn (f : FuncId) (caps : AV)
 | nilfn
 /-- a handle of an object -/
 | hnd (k : HK) (o : Nat)
 /-- a function with its first arguments -/
 | mv (f : FuncId) (fst : AV)
 /-- an interface that holds an empty struct -/
 | ifc (t : TypeId)
 /-- the nil pointer, the nil map -/
 | nilp
 | nilm
 /-- an array of functions, and one of them -/
 | fns (fs : List (Option FuncId))
 | fsel (fs : List (Option FuncId)) (i : Nat)
 /-- a slice of which only is known whether it is nil, and its length -/
 | pk (b : Bool) (n : Nat)
 | tup (a : AV)
 | dead
 deriving Inhabited
inductive Koh where
 | lp (f : FuncId) (key : Nat) (fr : List AV) (st : LSt)
 | sit (s : List UInt8) (pos : Nat)
 | mp (k v : TypeId) (ks vs : Sch) (m : List (ks.T × vs.T))
 /-- a map whose values are slices of its own, of which one may be lent -/
 | mps (k v E : TypeId) (ks s : Sch) (m : List (ks.T × List s.T)) (lent : Option ks.T)
 deriving Inhabited
def Koh.isFam : Koh → Bool
 | .mps _ _ _ _ _ _ _ => true
 | _ => false
inductive Jah where
 | row (E : TypeId) (s : Sch) (xs : List s.T) (fz : Bool)
 | box (v : AV)
 | oth (x : Koh)
 | gone
 | free
 deriving Inhabited
def Jah.isFam : Jah → Bool
 | .oth x => x.isFam
 | _ => false
def Jah.live : Jah → Bool
 | .row _ _ _ _ => true
 | .box _ => true
 | .oth _ => true
 | _ => false
structure ASt where
 cur : List AV
 stk : List (List AV)
 heap : List Jah
 deriving Inhabited
inductive TK where
 | other
 | func
 | slice (e : TypeId)
 | array (n : Nat) (e : TypeId)
 | struct (fs : List (Nat × TypeId))
 | ptr (e : TypeId)
 | map (k v : TypeId)
 deriving DecidableEq, Inhabited
structure TI where
 kind : TK
 cells : Nat
 sch : Option Sch
 eq : Bool
 deriving DecidableEq, Inhabited
def TI.agg (t : TI) : Bool :=
 match t.kind with
 | .array _ _ => true
 | .struct _ => true
 | _ => false
def Jcf {s t : Sch} (h : s = t) (x : s.T) : t.T := h ▸ x
def AV.agg : AV → Bool
 | .dat s _ => s.agg
 | .pr _ _ => true
 | .un => true
 | .fns _ => true
 | _ => false
def AV.cells : AV → Nat
 | .dat s _ => s.cells
 | .pr a b => a.cells + b.cells
 | .un => 0
 | .fns fs => fs.length
 | _ => 1
def AV.isTup : AV → Bool
 | .tup _ => true
 | _ => false
def AV.stands : AV → Bool
 | .tup _ => false
 | .dead => false
 | .pr a b => a.stands && b.stands
 | _ => true
def AV.mkPr : AV → AV → AV
 | .dat s x, .dat t y => .dat (.pair s t) (x, y)
 | a, b => .pr a b
def AV.comp : AV → Nat → AV
 | .pr a _, 0 => a
 | .pr _ b, k + 1 => b.comp k
 | .dat (.pair a _) x, 0 => .dat a x.1
 | .dat (.pair _ b) x, k + 1 => (AV.dat b x.2).comp k
 | _, _ => .dead
def AV.setComp : AV → Nat → AV → Option AV
 | .pr _ b, 0, u => some (.mkPr u b)
 | .pr a b, k + 1, u => (b.setComp k u).map (AV.mkPr a)
 | .dat (.pair _ b) x, 0, u => some (.mkPr u (.dat b x.2))
 | .dat (.pair a b) x, k + 1, u => ((AV.dat b x.2).setComp k u).map (AV.mkPr (.dat a x.1))
 | _, _, _ => none
def AV.sub (v : AV) (i : Nat) : AV :=
 match v with
 | .dat (.arr _ s) xs => .dat s (xs.getD i s.dflt)
 | .fns fs => .fsel fs i
 | v => v.comp i
def AV.setSub (v : AV) (i : Nat) (u : AV) : Option AV :=
 match v with
 | .dat (.arr n s) xs => match u with
  | .dat t y => if h : t = s then some (.dat (.arr n s) (xs.set i (Jcf h y))) else none
  | _ => none
 | .fns _ => none
 | v => v.setComp i u
def AV.get : AV → List Nat → AV
 | v, [] => v
 | v, i :: p => (v.sub i).get p
inductive Lay where
 | one
 | unit
 | pair (a b : Lay)
 | arr (n : Nat) (a : Lay)
 deriving DecidableEq, Inhabited
def Sch.lay : Sch → Lay
 | .arr n s => .arr n s.lay
 | .pair a b => .pair a.lay b.lay
 | .unit => .unit
 | _ => .one
def AV.lay : AV → Lay
 | .dat s _ => s.lay
 | .pr a b => .pair a.lay b.lay
 | .un => .unit
 | .fns fs => .arr fs.length .one
 | _ => .one
def Lay.cells : Lay → Nat
 | .one => 1
 | .unit => 0
 | .pair a b => a.cells + b.cells
 | .arr n a => n * a.cells
def Lay.agg : Lay → Bool
 | .one => false
 | _ => true
def Lay.comp : Lay → Nat → Option (Nat × Lay)
 | .pair a _, 0 => some (0, a)
 | .pair a b, k + 1 => (b.comp k).map fun x => (a.cells + x.1, x.2)
 | _, _ => none
def Lay.sub (l : Lay) (i : Nat) : Option (Nat × Lay) :=
 match l with
 | .arr n a => if i < n then some (i * a.cells, a) else none
 | l => l.comp i
def Lay.at_ : Lay → List Nat → Option (Nat × Lay)
 | l, [] => some (0, l)
 | l, i :: p => (l.sub i).bind fun x => (x.2.at_ p).map fun y => (x.1 + y.1, y.2)
def AV.put : AV → List Nat → AV → Option AV
 | v, [], u => if u.stands && u.lay == v.lay then some u else none
 | v, i :: p, u => ((v.sub i).put p u).bind fun z => v.setSub i z
structure Jsl where
 s : Sch
 xs : List s.T
def Jah.elems : Jah → Option Jsl
 | .row _ s xs _ => some ⟨s, xs⟩
 | .box (.dat (.arr _ s) xs) => some ⟨s, xs⟩
 | _ => none
def Jah.av : Jah → AV
 | .row _ s xs _ => .dat (.arr xs.length s) xs
 | .box v => v
 | _ => .dead
def Kt4 : AV → Option (Nat × Sch)
 | .dat (.arr n s) _ => some (n, s)
 | _ => none
def Jah.back (ob : Jah) (z : AV) : Option Jah :=
 match ob with
 | .row E s _ false => match z with
  | .dat (.arr _ t) ys => if h : t = s then some (.row E s (Jcf (s := .slc t) (t := .slc s) (by rw [h]) ys) false) else none
  | _ => none
 | .box v => if Kt4 z = Kt4 v then some (.box z) else none
 | _ => none
def Jah.get (ob : Jah) (p : List Nat) : AV := ob.av.get p
def Jah.put (ob : Jah) (p : List Nat) (u : AV) : Option Jah := (ob.av.put p u).bind ob.back
def ASt.obj (H : List Jah) (o : Nat) : Jah := H.getD o .free
abbrev Upd := List (Nat × Jah)
def upd (H : List Jah) (U : Upd) : List Jah := U.foldl (fun H x => H.set x.1 x.2) H
def Jeo (H : List Jah) : AV → Option Jsl
 | .dat (.slc s) xs => some ⟨s, xs⟩
 | .slx s xs => some ⟨s, xs⟩
 | .row o => (ASt.obj H o).elems
 | .sl o off len => match (ASt.obj H o).elems with
  | some e => some ⟨e.s, (e.xs.drop off).take len⟩
  | none => none
 | _ => none
def Jgd (H : List Jah) (s : Sch) (v : AV) : Option (List s.T) :=
 match v with
 | .nils => some []
 | .emp => some []
 | v => match Jeo H v with
  | some e => if h : e.s = s then some (Jcf (s := .slc e.s) (t := .slc s) (by rw [h]) e.xs) else none
  | none => none
def Jfv (H : List Jah) (s : Sch) (v : AV) : Option (List s.T) :=
 match v with
 | .dat .str b => Jgd H s (.dat (.slc (.int .u8)) b)
 | v => Jgd H s v
def lenOf (H : List Jah) : AV → Option Nat
 | .dat .str x => some x.length
 | .nils => some 0
 | .emp => some 0
 | .sl o _ len => (ASt.obj H o).elems.map fun _ => len
 | .pk _ n => some n
 | v => (Jeo H v).map fun e => e.xs.length
def AV.refs : AV → List Nat
 | .row o => [o]
 | .sl o _ _ => [o]
 | .ptr o _ => [o]
 | .pr a b => a.refs ++ b.refs
 | .fn _ c => c.refs
 | .hnd _ o => [o]
 | .mv _ c => c.refs
 | .tup a => a.refs
 | _ => []
def Jah.plain (b : Bool) : Jah → Bool
 | .row _ _ _ _ => true
 | .box (.dat (.arr _ _) _) => true
 | .box _ => b
 | _ => false
def Jbu (b : Bool) (H : List Jah) : (s : Sch) → AV → Option s.T
 | s, .dat t x => if h : t = s then some (Jcf h x) else none
 | .slc s, .slx t xs => if h : t = s then some (Jcf (s := .slc t) (t := .slc s) (by rw [h]) xs) else none
 | .slc _, .nils => some []
 | .slc _, .emp => some []
 | .slc s, .row o => if (ASt.obj H o).plain b then Jgd H s (.row o) else none
 | .slc s, .sl o i n => if (ASt.obj H o).plain b then Jgd H s (.sl o i n) else none
 | .pair a c, .pr u v => match Jbu b H a u, Jbu b H c v with
  | some x, some y => some (x, y)
  | _, _ => none
 | .unit, .un => some ()
 | _, _ => none
def Jai : Jah → Jah
 | .row E s xs _ => .row E s xs true
 | .box (.dat (.arr _ s) xs) => .row 0 s xs true
 | o => o
def freezes (H : List Jah) (v : AV) : Upd := v.refs.map fun o => (o, Jai (ASt.obj H o))
def Ja7 (H : List Jah) (n : Nat) (ob : Jah) : Option Upd :=
 if n < H.length then match ASt.obj H n with
  | .free => some [(n, ob)]
  | _ => none
 else none
end Go.AI
namespace Go.AI
open Go Go.RowKit
abbrev Gam := List (Option TI)
def Gam.at_ (Γ : Gam) (t : TypeId) : Option TI := (Γ[t]?).join
def Gam.sch (Γ : Gam) (t : TypeId) : Option Sch := (Γ.at_ t).bind (·.sch)
def Gam.elem (Γ : Gam) (t : TypeId) : Option (TypeId × Sch) :=
 match Γ.at_ t with
 | some { kind := .slice e, .. } => (Γ.sch e).map fun s => (e, s)
 | _ => none
def big : Nat := 2147483648
abbrev Ans := Option (Bool × AV × Upd)
def J9c : Value → AV
 | .int k n => if (Lit.int k n).wf then .dat (.int k) (ofI k n) else .dead
 | .bool b => .dat .bool b
 | .string s => if s.size ≤ maxLen then .dat .str s.data.toList else .dead
 | .slice none 0 0 => .nils
 | .nilFunc => .nilfn
 | .pointer none => .nilp
 | .map none => .nilm
 | _ => .dead
def Jb9 (cur : List AV) : Operand → AV
 | .tmp t => cur.getD t .dead
 | .const v => J9c v
 | .global _ => .dead
 | .func f => .fn f .un
def wAdd (k : IntKind) (a b : IT k) : IT k := ofI k (k.wrap (toI k a + toI k b))
def wSub (k : IntKind) (a b : IT k) : IT k := ofI k (k.wrap (toI k a - toI k b))
def wMul (k : IntKind) (a b : IT k) : IT k := ofI k (k.wrap (toI k a * toI k b))
def wQuo (k : IntKind) (a b : IT k) : IT k := ofI k (k.wrap ((toI k a).tdiv (toI k b)))
def wRem (k : IntKind) (a b : IT k) : IT k := ofI k ((toI k a).tmod (toI k b))
def wAnd (k : IntKind) (a b : IT k) : IT k := ofI k (k.wrap (BitVec.ofInt k.bits (toI k a) &&& BitVec.ofInt k.bits (toI k b)).toNat)
def wOr (k : IntKind) (a b : IT k) : IT k := ofI k (k.wrap (BitVec.ofInt k.bits (toI k a) ||| BitVec.ofInt k.bits (toI k b)).toNat)
def wXor (k : IntKind) (a b : IT k) : IT k := ofI k (k.wrap (BitVec.ofInt k.bits (toI k a) ^^^ BitVec.ofInt k.bits (toI k b)).toNat)
def K4p (k : IntKind) (a b : IT k) : IT k := ofI k (k.wrap (BitVec.ofInt k.bits (toI k a) &&& ~~~BitVec.ofInt k.bits (toI k b)).toNat)
def wNot (k : IntKind) (a : IT k) : IT k := ofI k (k.wrap (BitVec.ofInt k.bits (if k.signed then -1 else k.max) ^^^ BitVec.ofInt k.bits (toI k a)).toNat)
def wNeg (k : IntKind) (a : IT k) : IT k := ofI k (k.wrap (0 - toI k a))
def K7k (k : IntKind) (a : IT k) (n : Int) : IT k := ofI k (k.wrap (toI k a * 2 ^ (min n.toNat k.bits)))
def K68 (k : IntKind) (a : IT k) (n : Int) : IT k := ofI k ((toI k a).fdiv (2 ^ (min n.toNat k.bits)))
def J9d (j k : IntKind) (a : IT j) : IT k := ofI k (k.wrap (toI j a))
def K69 (k : IntKind) (a b : IT k) : IT k := if toI k b < toI k a then b else a
def K7a (k : IntKind) (a b : IT k) : IT k := if toI k b > toI k a then b else a
def Kdy (k : IntKind) (n : Int) : Bool :=
 match k with
 | .u8 => true
 | .u16 => true
 | .u32 => true
 | .u64 => true
 | _ => decide (0 ≤ n)
def Sch.beq : (s : Sch) → s.T → s.T → Bool
 | .int k, a, b => toI k a == toI k b
 | .bool, a, b => a == b
 | .str, a, b => a == b
 | .arr _ s, a, b => a.length == b.length && (a.zip b).all fun x => s.beq x.1 x.2
 | .pair s t, a, b => s.beq a.1 b.1 && t.beq a.2 b.2
 | .unit, _, _ => true
 | .slc _, _, _ => false
def Sch.comparable : Sch → Bool
 | .slc _ => false
 | .arr _ s => s.comparable
 | .pair a b => a.comparable && b.comparable
 | _ => true
def Kt5 (op : BinOp) (k : IntKind) (a b : IT k) : Option (Bool × AV) :=
 match op with
 | .add => some (true, .dat (.int k) (wAdd k a b))
 | .sub => some (true, .dat (.int k) (wSub k a b))
 | .mul => some (true, .dat (.int k) (wMul k a b))
 | .quo => some (toI k b != 0, .dat (.int k) (wQuo k a b))
 | .rem => some (toI k b != 0, .dat (.int k) (wRem k a b))
 | .and => some (true, .dat (.int k) (wAnd k a b))
 | .or => some (true, .dat (.int k) (wOr k a b))
 | .xor => some (true, .dat (.int k) (wXor k a b))
 | .andNot => some (true, .dat (.int k) (K4p k a b))
 | .eql => some (true, .dat .bool (toI k a == toI k b))
 | .neq => some (true, .dat .bool (toI k a != toI k b))
 | .lss => some (true, .dat .bool (decide (toI k a < toI k b)))
 | .leq => some (true, .dat .bool (decide (toI k a ≤ toI k b)))
 | .gtr => some (true, .dat .bool (decide (toI k a > toI k b)))
 | .geq => some (true, .dat .bool (decide (toI k a ≥ toI k b)))
 | _ => none
def K3c (op : BinOp) (a b : List UInt8) : Option (Bool × AV) :=
 match op with
 | .eql => some (true, .dat .bool (a == b))
 | .neq => some (true, .dat .bool (!(a == b)))
 | _ => none
def Kjo {α : Type} (f : α → α → Bool) : List α → List α → Bool
 | [], [] => true
 | a :: l, b :: m => f a b && Kjo f l m
 | _, _ => false
def Jcu : (s : Sch) → s.T → s.T → Bool
 | .int k, a, b => toI k a == toI k b
 | .bool, a, b => a == b
 | .str, a, b => a == b
 | .slc _, _, _ => false
 | .arr _ s, a, b => Kjo (Jcu s) a b
 | .pair s t, a, b => Jcu s a.1 b.1 && Jcu t a.2 b.2
 | .unit, _, _ => true
def K7l (Γ : Gam) (t : TypeId) (s : Sch) : Bool := match Γ.at_ t with
 | some ti => ti.eq && ti.sch == some s
 | none => false
def aBin (Γ : Gam) (t : TypeId) (op : BinOp) (x y : AV) : Option (Bool × AV) :=
 match x, y with
 | .dat (.int k) a, .dat (.int j) b =>
  match op with
  | .shl => some (Kdy j (toI j b), .dat (.int k) (K7k k a (toI j b)))
  | .shr => some (Kdy j (toI j b), .dat (.int k) (K68 k a (toI j b)))
  | op => if h : j = k then Kt5 op k a (Jcf (s := .int j) (t := .int k) (by rw [h]) b) else none
 | .dat .str a, .dat .str b => K3c op a b
 | .dat .bool a, .dat .bool b => if Γ.sch t == some .bool then match op with
  | .eql => some (true, .dat .bool (a == b))
  | .neq => some (true, .dat .bool (!(a == b)))
  | _ => none
  else none
 | .dat s a, .dat s' b => if h : s' = s then if K7l Γ t s then match op with
  | .eql => some (true, .dat .bool (Jcu s a (Jcf h b)))
  | .neq => some (true, .dat .bool (!(Jcu s a (Jcf h b))))
  | _ => none
  else none else none
 | _, _ => none
def aUn (op : UnOp) (x : AV) : Option AV :=
 match op, x with
 | .neg, .dat (.int k) a => some (.dat (.int k) (wNeg k a))
 | .xor, .dat (.int k) a => some (.dat (.int k) (wNot k a))
 | .not, .dat .bool b => some (.dat .bool (!b))
 | _, _ => none
def Jhg (H : List Jah) (s : Sch) (v : AV) : Option (s.T × Upd) := (Jbu false H s v).map fun x => (x, freezes H v)
def Jga (s : Sch) (cur : List AV) (H : List Jah) : List (Nat × Operand) → List s.T → Upd → Option (List s.T × Upd)
 | [], xs, U => some (xs, U)
 | (i, x) :: r, xs, U => match Jhg H s (Jb9 cur x) with
  | some (y, V) => if i < xs.length then Jga s cur H r (xs.set i y) (U ++ V) else none
  | none => none
def Jhh : Sch → List Value
 | .int k => [.int k 0]
 | .bool => [.bool false]
 | .str => [.string ⟨#[]⟩]
 | .slc _ => [.slice none 0 0]
 | .arr n s => (List.replicate n (Jhh s)).flatten
 | .pair a b => Jhh a ++ Jhh b
 | .unit => []
def Sch.isSlc : Sch → Bool
 | .slc _ => true
 | _ => false
def Juv (Γ : Gam) (n : Bool) (t : TypeId) : Option (AV × List Value) :=
 match Γ.at_ t with
 | some { kind := .func, .. } => some (.nilfn, [.nilFunc])
 | some { kind := .ptr _, .. } => some (.nilp, [.pointer none])
 | some { kind := .map _ _, .. } => some (.nilm, [.map none])
 | some ti => ti.sch.map fun s => bif n && s.isSlc then (.nils, [.slice none 0 0]) else (.dat s s.dflt, Jhh s)
 | none => none
def Jkd (Γ : Gam) (n : Bool) : List (Nat × TypeId) → Option (AV × List Value)
 | [] => some (.dat .unit (), [])
 | (_, t) :: r => match Juv Γ n t, Jkd Γ n r with
  | some (u, L), some (v, M) => some (.mkPr u v, L ++ M)
  | _, _ => none
def Jjx (Γ : Gam) (fs : List (Nat × TypeId)) : Option (AV × List Value) := Jkd Γ (fs.any fun f => (Γ.sch f.2).isNone) fs
def Jxh (Γ : Gam) (ti : TI) : Option (AV × List Value) :=
 match ti.kind with
 | .struct fs => Jjx Γ fs
 | .array n e => match Γ.at_ e with
  | some { kind := .func, .. } => some (.fns (List.replicate n none), List.replicate n .nilFunc)
  | _ => none
 | _ => none
def Juw (cur : List AV) : List (Nat × Operand) → List (Option FuncId) → Option (List (Option FuncId))
 | [], fs => some fs
 | (i, x) :: r, fs => if i < fs.length then match Jb9 cur x with
  | .fn f .un => Juw cur r (fs.set i (some f))
  | _ => none
  else none
def Jfb (Γ : Gam) (cur : List AV) (fs : List (Nat × TypeId)) : List (Nat × Operand) → AV → Option AV
 | [], v => some v
 | (k, x) :: r, v =>
  match fs[k]?, v.lay.comp k with
  | some (off, t), some (o, l) => match Γ.at_ t with
   | some ti =>
    let u := Jb9 cur x
    if o = off ∧ u.stands = true ∧ u.lay = l ∧ l.cells = ti.cells then (v.setComp k u).bind (Jfb Γ cur fs r) else none
   | none => none
  | _, _ => none
def Gam.sliceOf (Γ : Gam) (t : TypeId) (n : Nat) : Bool :=
 match Γ.at_ t with
 | some { kind := .slice e, .. } => match Γ.at_ e with
  | some ti => ti.cells == n
  | none => false
 | _ => false
def bnd : Option AV → Option (Option Int)
 | none => some none
 | some (.dat (.int k) a) => some (some (toI k a))
 | _ => none
def Jin (n : Nat) : Option Int → Option Int → Bool
 | none, none => true
 | none, some h => decide (0 ≤ h) && decide (h ≤ n)
 | some l, none => decide (0 ≤ l) && decide (l ≤ n)
 | some l, some h => decide (0 ≤ l) && decide (l ≤ h) && decide (h ≤ n)
def cut {α : Type} (xs : List α) : Option Int → Option Int → List α
 | none, none => xs
 | none, some h => xs.take h.toNat
 | some l, none => xs.drop l.toNat
 | some l, some h => (xs.take h.toNat).drop l.toNat
def Jd4 : Option Int → Nat
 | none => 0
 | some l => l.toNat
def Jsm (n : Nat) : Option Int → Nat
 | none => n
 | some h => h.toNat
def Jy6 (Γ : Gam) (H : List Jah) (t : TypeId) (x : AV) (lo hi mx : Option AV) : Option (Bool × AV) :=
 match bnd lo, bnd hi, mx with
 | some l, some h, none => match x with
  | .dat .str a => if Γ.sch t == some .str then some (Jin a.length l h, .dat .str (cut a l h)) else none
  | .dat (.slc s) a => if Γ.sliceOf t s.cells then some (Jin a.length l h, .dat (.slc s) (cut a l h)) else none
  | .slx s a => if Γ.sliceOf t s.cells then some (Jin a.length l h, if h.isNone then .slx s (cut a l h) else .dat (.slc s) (cut a l h)) else none
  | .row o => match (ASt.obj H o).elems with
   | some e => if Γ.sliceOf t e.s.cells then some (Jin e.xs.length l h, .sl o (Jd4 l) (Jsm e.xs.length h - Jd4 l)) else none
   | none => none
  | .sl o off n => match (ASt.obj H o).elems with
   | some e => if Γ.sliceOf t e.s.cells then some (Jin n l h, .sl o (off + Jd4 l) (Jsm n h - Jd4 l)) else none
   | none => none
  | _ => none
 | _, _, _ => none
def Jnc (Γ : Gam) (t : TypeId) : Bool :=
 match Γ.at_ t with
 | some { kind := .slice e, .. } => (Γ.at_ e).isSome
 | _ => false
def Jpp (Γ : Gam) (H : List Jah) (t : TypeId) (z : Bool) (x : AV) (lo : Option AV) (hi mx : AV) : Option (Bool × AV) :=
 match bnd lo, bnd (some hi), bnd (some mx) with
 | some l, some (some h), some (some m) => match x with
  | .dat (.slc s) a => if Γ.sliceOf t s.cells then some (Jin a.length l (some h) && (m == h), .slx s (cut a l (some h))) else none
  | .slx s a => if Γ.sliceOf t s.cells then some (Jin a.length l (some h) && (m == h), .slx s (cut a l (some h))) else none
  | .row o => match (ASt.obj H o).elems with
   | some e => if Γ.sliceOf t e.s.cells then some (Jin e.xs.length l (some h) && (m == h), if z then .emp else .sl o (Jd4 l) (h.toNat - Jd4 l)) else none
   | none => none
  | .sl o off n => match (ASt.obj H o).elems with
   | some e => if Γ.sliceOf t e.s.cells then some (Jin n l (some h) && (m == h), if z then .emp else .sl o (off + Jd4 l) (h.toNat - Jd4 l)) else none
   | none => none
  | .nils => if Jnc Γ t then some (Jin 0 l (some h) && (m == h), .nils) else none
  | .emp => if Jnc Γ t then some (Jin 0 l (some h) && (m == h), .emp) else none
  | _ => none
 | _, _, _ => none
def Gam.arrOf (Γ : Gam) (t : TypeId) (n k : Nat) : Bool :=
 match Γ.at_ t with
 | some { kind := .array m e, .. } => match Γ.at_ e with
  | some ti => Nat.beq m n && Nat.beq ti.cells k
  | none => false
 | _ => false
def J9e (Γ : Gam) (H : List Jah) (t : TypeId) (o : Nat) (lo hi : Option AV) : Option (Bool × AV) :=
 match bnd lo, bnd hi, ASt.obj H o with
 | some l, some h, .box (.dat (.arr n s) _) => if Γ.arrOf t n s.cells then some (Jin n l h, .sl o (Jd4 l) (Jsm n h - Jd4 l)) else none
 | _, _, _ => none
def Jti (Γ : Gam) (H : List Jah) (t : TypeId) (z : Bool) (x : AV) (lo hi mx : Option AV) : Option (Bool × AV) :=
 match mx with
 | some m => match hi with
  | some h => Jpp Γ H t z x lo h m
  | none => none
 | none => match x with
  | .ptr o [] => J9e Γ H t o lo hi
  | x => Jy6 Γ H t x lo hi none
end Go.AI
namespace Go.AI
open Go Go.RowKit
def Jcg (cur : List AV) (d : Option Tmp) (v : AV) : List AV :=
 match d with
 | some t => cur.set t v
 | none => cur
def J9f : Operand → Operand → Bool
 | .tmp a, .tmp b => a == b
 | _, _ => false
def Jxi (Γ : Gam) (t : TypeId) (x y : AV) (H : List Jah) (nid : Nat) : Ans :=
 match Γ.elem t with
 | none => none
 | some (E, s) =>
  match Jfv H s y with
  | none => none
  | some ys =>
   match x with
   | .nils => (Ja7 H nid (.row E s ys false)).map fun U => (decide (ys.length ≤ big), .row nid, U)
   | .emp => (Ja7 H nid (.row E s ys false)).map fun U => (decide (ys.length ≤ big), .row nid, U)
   | .row o => match ASt.obj H o with
    | .row E' s' xs false => if h : E' = E ∧ s' = s then
      let zs := (Jcf (s := .slc s') (t := .slc s) (by rw [h.2]) xs) ++ ys
      (Ja7 H nid (.row E s zs false)).map fun U => (decide (zs.length ≤ big), .row nid, (o, .gone) :: U)
     else none
    | _ => none
   | .slx s' xs => if h : s' = s then
      let zs := (Jcf (s := .slc s') (t := .slc s) (by rw [h]) xs) ++ ys
      some (decide (zs.length ≤ big), .dat (.slc s) zs, [])
     else none
   | _ => none
def Kq3 (Γ : Gam) (t : TypeId) (x y : AV) (H : List Jah) : Ans :=
 match Γ.elem t with
 | none => none
 | some (_, s) =>
  match Jfv H s y with
  | none => none
  | some ys =>
   let at_ (o off : Nat) (len : Option Nat) : Ans :=
    let go (xs : List s.T) (back : List s.T → Jah) : Ans :=
     let n := min ys.length (len.getD xs.length)
     some (true, .dat (.int .i64) (n : Int), [(o, back (xs.take off ++ ys.take n ++ xs.drop (off + n)))])
    match ASt.obj H o with
    | .row E' s' xs false => if h : s' = s then go (Jcf (s := .slc s') (t := .slc s) (by rw [h]) xs) (fun zs => .row E' s zs false) else none
    | .box (.dat (.arr n s') xs) => if h : s' = s then go (Jcf (s := .slc s') (t := .slc s) (by rw [h]) xs) (fun zs => .box (.dat (.arr n s) zs)) else none
    | _ => none
   match x with
   | .row o => at_ o 0 none
   | .sl o off len => at_ o off (some len)
   | _ => none
def J69 (Γ : Gam) (t : TypeId) (x : AV) (H : List Jah) : Ans :=
 match Γ.elem t with
 | none => none
 | some (_, s) =>
  let at_ (o off : Nat) (len : Option Nat) : Ans :=
   match ASt.obj H o with
   | .row E' s' xs false => if h : s' = s then
     let ys : List s.T := Jcf (s := .slc s') (t := .slc s) (by rw [h]) xs
     let n := len.getD ys.length
     some (true, .tup .un, [(o, .row E' s (ys.take off ++ List.replicate n s.dflt ++ ys.drop (off + n)) false)])
    else none
   | _ => none
  match x with
  | .row o => at_ o 0 none
  | .sl o off len => at_ o off (some len)
  | _ => none
def Kdz (Γ : Gam) (t : TypeId) (x : AV) (H : List Jah) : Ans :=
 match Γ.at_ t with
 | none => none
 | some ti =>
  let ok (v : AV) : Ans := if v.stands && v.cells == ti.cells && v.agg == ti.agg then some (true, v, []) else none
  match x with
  | .ptr o p => ok ((ASt.obj H o).get p)
  | .vptr s y => ok (.dat s y)
  | _ => none
def J1q (Γ : Gam) (t : TypeId) (x u : AV) (H : List Jah) : Ans :=
 match Γ.at_ t with
 | none => none
 | some ti =>
  match x with
  | .ptr o p =>
   if u.stands && u.cells == ti.cells then
    match (ASt.obj H o).put p u with
    | some ob => some (true, .dead, [(o, ob)])
    | none => match ti.sch with
     | some s => match Jhg H s u with
      | some (y, V) => if u.refs.contains o then none else match (ASt.obj H o).put p (.dat s y) with
       | some ob => some (true, .dead, V ++ [(o, ob)])
       | none => none
      | none => none
     | none => none
   else none
  | _ => none
def Je2 (Γ : Gam) (t : TypeId) (x i : AV) (H : List Jah) : Ans :=
 match i with
 | .dat (.int k) a =>
  let n := (toI k a).toNat
  let inside (len : Nat) : Bool := decide (0 ≤ toI k a) && decide (toI k a < len)
  let fits (e : TypeId) (s : Sch) : Bool := match Γ.at_ e with | some ti => ti.cells == s.cells | none => false
  match Γ.at_ t with
  | some { kind := .slice e, .. } => match x with
   | .row o => match (ASt.obj H o).elems with
    | some el => if fits e el.s then some (inside el.xs.length, .ptr o [n], []) else none
    | none => none
   | .sl o off len => match (ASt.obj H o).elems with
    | some el => if fits e el.s then some (inside len, .ptr o [off + n], []) else none
    | none => none
   | .dat (.slc s) xs => if fits e s then some (inside xs.length, .vptr s (xs.getD n s.dflt), []) else none
   | .slx s xs => if fits e s then some (inside xs.length, .vptr s (xs.getD n s.dflt), []) else none
   | _ => none
  | some { kind := .array len e, .. } => match x with
   | .ptr o p => match (ASt.obj H o).get p with
    | .dat (.arr m s) _ => if fits e s && m == len then some (inside len, .ptr o (p ++ [n]), []) else none
    | .fns fs => if fits e .bool && fs.length == len then some (inside len, .ptr o (p ++ [n]), []) else none
    | _ => none
   | .vptr (.arr m s) xs => if fits e s && m == len then some (inside len, .vptr s (xs.getD n s.dflt), []) else none
   | _ => none
  | _ => none
 | _ => none
def Kt6 (Γ : Gam) (t : TypeId) (x i : AV) : Option (Bool × AV) :=
 match i with
 | .dat (.int k) a =>
  let n := (toI k a).toNat
  let inside (len : Nat) : Bool := decide (0 ≤ toI k a) && decide (toI k a < len)
  match x with
  | .dat .str b => if Γ.sch t == some .str then some (inside b.length, .dat (.int .u8) (b.getD n 0)) else none
  | .dat (.arr m s) xs => match Γ.at_ t with
   | some { kind := .array len e, .. } => match Γ.at_ e with
    | some ti => if ti.cells == s.cells && ti.agg == s.agg && m == len then some (inside len, .dat s (xs.getD n s.dflt)) else none
    | none => none
   | _ => none
  | _ => none
 | _ => none
def J9g (Γ : Gam) (t : TypeId) (f : Nat) : Option (Nat × TI) :=
 match Γ.at_ t with
 | some { kind := .struct fs, .. } => match fs[f]? with
  | some (off, ft) => (Γ.at_ ft).map fun ti => (off, ti)
  | none => none
 | _ => none
def Kt7 (Γ : Gam) (t : TypeId) (x : AV) (f : Nat) : Option AV :=
 match J9g Γ t f with
 | some (off, ti) =>
  let v := x.comp f
  if ((x.lay.comp f).map (·.1)) == some off && v.stands && v.cells == ti.cells && v.agg == ti.agg then some v else none
 | none => none
def Jjy (Γ : Gam) (t : TypeId) (x : AV) (f : Nat) (H : List Jah) : Option AV :=
 match J9g Γ t f with
 | some (off, ti) =>
  if ti.cells = 0 then none else
  match x with
  | .ptr o p => if ((((ASt.obj H o).get p).lay.comp f).map (·.1)) == some off then some (.ptr o (p ++ [f])) else none
  | .vptr s y => match (AV.dat s y).comp f with
   | .dat s' y' => if ((s.lay.comp f).map (·.1)) == some off then some (.vptr s' y') else none
   | _ => none
  | _ => none
 | none => none
def Jq8 (Γ : Gam) (src dst : TypeId) (x : AV) (H : List Jah) (nid : Nat) : Ans :=
 match Γ.at_ dst with
 | none => none
 | some td =>
  if (Γ.at_ src).isNone then none else
  match td.sch, x with
  | some (.int k), .dat (.int j) a => some (true, .dat (.int k) (J9d j k a), [])
  | some .str, .dat .str a => some (true, .dat .str a, [])
  | some (.slc (.int .u8)), .dat .str a => match td.kind with
   | .slice e => (Ja7 H nid (.row e (.int .u8) a false)).map fun U => (decide (a.length ≤ big), .row nid, U)
   | _ => none
  | some (.slc (.int .u8)), .row o => if src == dst then
    match ASt.obj H o with
    | .row _ (.int .u8) xs false => some (!xs.isEmpty, .row o, [])
    | _ => none
   else none
  | some .str, y => match Γ.sch src with
   | some (.slc (.int .u8)) => (Jgd H (.int .u8) y).map fun xs => (true, .dat .str xs, [])
   | _ => none
  | _, _ => none
def K0k (Γ : Gam) (t : TypeId) (l c : Operand) (cur : List AV) (H : List Jah) (nid : Nat) : Ans :=
 match Γ.elem t, Jb9 cur l, Jb9 cur c with
 | some (E, s), .dat (.int j) a, .dat (.int k) b =>
  (Ja7 H nid (.row E s (List.replicate (toI j a).toNat s.dflt) false)).map fun U =>
   (decide (0 ≤ toI j a) && (J9f l c || decide (toI j a ≤ toI k b)) && decide (toI k b ≤ big), .row nid, U)
 | _, _, _ => none
def Jpq (mx : Bool) (k : IntKind) (a : IT k) : List AV → Option (IT k)
 | [] => some a
 | .dat (.int j) b :: r => if h : j = k then
   Jpq mx k ((if mx then K7a else K69) k a (Jcf (s := .int j) (t := .int k) (by rw [h]) b)) r
  else none
 | _ => none
def K0l (Γ : Gam) (t : TypeId) : AV → Bool
 | .dat .str _ => Γ.sch t == some .str
 | _ => match Γ.at_ t with
  | some { kind := .slice _, .. } => true
  | _ => false
def Jq9 (Γ : Gam) (b : Builtin) (ts : List TypeId) (xs : List AV) (H : List Jah) (nid : Nat) : Ans :=
 match b, ts, xs with
 | .len, [t], [x] => if K0l Γ t x then (lenOf H x).map fun n => (true, .dat (.int .i64) (n : Int), []) else none
 | .append, [t, t'], [x, y] => if t' == t || Γ.sch t' == some .str then Jxi Γ t x y H nid else none
 | .copy, t :: _, [x, y] => Kq3 Γ t x y H
 | .clear, [t], [x] => J69 Γ t x H
 | .max, _, .dat (.int k) a :: r => (Jpq true k a r).map fun n => (true, .dat (.int k) n, [])
 | .min, _, .dat (.int k) a :: r => (Jpq false k a r).map fun n => (true, .dat (.int k) n, [])
 | _, _, _ => none
def Jux (r : Option (Bool × AV)) : Ans := r.map fun x => (x.1, x.2, [])
def Jtj (r : Option AV) : Ans := r.map fun x => (true, x, [])
def J9h : Sch → Bool
 | .arr n _ => decide (n ≤ maxLen)
 | _ => true
def J9i : AV → Bool
 | .dat s _ => J9h s
 | _ => true
def Kt8 : Option Operand → Option Operand → Bool
 | none, some (.const (.int _ 0)) => true
 | _, _ => false
def Jtk (s : List UInt8) (pos : Nat) : Nat := pos + (Utf8.decode ⟨s.toArray⟩ pos).2
def Jdd {α β : Type} (eq : α → α → Bool) (x : α) : List (α × β) → Option β
 | [] => none
 | e :: l => bif eq x e.1 then some e.2 else Jdd eq x l
def Jjz {α β : Type} (eq : α → α → Bool) (x : α) (v : β) : List (α × β) → List (α × β)
 | [] => [(x, v)]
 | e :: l => bif eq x e.1 then (x, v) :: l else e :: Jjz eq x v l
def Gam.mapOf (Γ : Gam) (t : TypeId) : Option (TypeId × TypeId × Sch × Sch) :=
 match Γ.at_ t with
 | some { kind := .map k v, .. } => match Γ.sch k, Γ.sch v with
  | some ks, some vs => some (k, v, ks, vs)
  | _, _ => none
 | _ => none
def Koi : Sch → Bool
 | .int _ => true
 | _ => false
def Gam.keyT (Γ : Gam) (t : TypeId) : Bool := match Γ.at_ t with
 | some ti => ti.eq
 | none => false
def J0r (Γ : Gam) (t : TypeId) (H : List Jah) (nid : Nat) : Ans :=
 match Γ.mapOf t with
 | some (k, v, ks, vs) => if (Koi ks || Γ.keyT t) = true then match Γ.elem v with
   | some (E, s) => (Ja7 H nid (.oth (.mps k v E ks s [] none))).map fun U => (true, .hnd .map nid, U)
   | none => (Ja7 H nid (.oth (.mp k v ks vs []))).map fun U => (true, .hnd .map nid, U)
  else none
 | none => none
def Jxj (mv : Bool) (Γ : Gam) (t : TypeId) (m x : AV) (ok : Bool) (H : List Jah) (nid : Nat) : Ans :=
 match Γ.mapOf t with
 | some (k, v, ks, vs) => match m, x with
  | .hnd .map o, .dat s y => match ASt.obj H o with
   | .oth (.mp k' v' ks' vs' l) => if h : s = ks' then (if k' = k ∧ v' = v ∧ ks' = ks ∧ vs' = vs ∧ Γ.keyT t = true ∧ vs'.agg = false then
     let r := Jdd (Jcu ks') (Jcf h y) l
     some (true, if ok then .tup (.pr (.dat vs' (r.getD vs'.dflt)) (.pr (.dat .bool r.isSome) .un)) else .dat vs' (r.getD vs'.dflt), [])
    else none) else none
   | .oth (.mps k' v' E ks' s' l none) => if h : s = ks' then (if k' = k ∧ v' = v ∧ ks' = ks ∧ Γ.elem v' = some (E, s') ∧ Koi ks' = true ∧ ok = false then
     let r := Jdd (Jcu ks') (Jcf h y) l
     bif mv then (Ja7 H nid (.row E s' (r.getD []) false)).map fun U => (r.isSome, .row nid, (o, .oth (.mps k' v' E ks' s' l (some (Jcf h y)))) :: U)
     else some (true, .pk r.isNone (r.getD []).length, [])
    else none) else none
   | _ => none
  | _, _ => none
 | none => none
def Jh4 (Γ : Gam) (t : TypeId) (m x u : AV) (H : List Jah) : Ans :=
 match Γ.mapOf t with
 | some (k, v, ks, vs) => match m, x with
  | .hnd .map o, .dat s y => match ASt.obj H o with
   | .oth (.mp k' v' ks' vs' l) => if h : s = ks' then (if k' = k ∧ v' = v ∧ ks' = ks ∧ vs' = vs ∧ Γ.keyT t = true ∧ vs'.agg = false ∧ u.stands = true ∧ u.agg = false ∧ u.refs.contains o = false then
     match Jhg H vs' u with
     | some (z, V) => some (decide (l.length < big), .dead, V ++ [(o, .oth (.mp k' v' ks' vs' (Jjz (Jcu ks') (Jcf h y) z l)))])
     | none => none
    else none) else none
   | .oth (.mps k' v' E ks' s' l lent) => if h : s = ks' then (if k' = k ∧ v' = v ∧ ks' = ks ∧ Koi ks' = true then match u with
     | .row o2 => match ASt.obj H o2 with
      | .row E2 s2 xs false => if h2 : s2 = s' then (if E2 = E then
        some ((match lent with | none => true | some z => Jcu ks' z (Jcf h y)) && decide (0 < xs.length) && decide (l.length < big), .dead,
         [(o2, .gone), (o, .oth (.mps k' v' E ks' s' (Jjz (Jcu ks') (Jcf h y) (Jcf (s := .slc s2) (t := .slc s') (by rw [h2]) xs) l) none))])
       else none) else none
      | _ => none
     | _ => none
    else none) else none
   | _ => none
  | _, _ => none
 | none => none
def aop (mv : Bool) (Γ : Gam) (o : Op) (cur : List AV) (H : List Jah) (nid : Nat) : Ans :=
 let e := Jb9 cur
 match o with
 | .move x => some (true, e x, [])
 | .assign x => some (true, e x, [])
 | .pick c a b => match e c with
  | .dat .bool true => some (true, e a, [])
  | .dat .bool false => some (true, e b, [])
  | _ => none
 | .alloc t => match Γ.sch t with
  | some s => if J9h s then (Ja7 H nid (.box (bif s.isSlc then .nils else .dat s s.dflt))).map fun U => (true, .ptr nid [], U) else none
  | none => match Γ.at_ t with
   | some ti => match Jxh Γ ti with
    | some (z, _) => if J9i z then (Ja7 H nid (.box z)).map fun U => (true, .ptr nid [], U) else none
    | none => none
   | none => none
 | .box _ x => if (e x).stands && J9i (e x) then (Ja7 H nid (.box (e x))).map fun U => (true, .ptr nid [], U) else none
 | .build t parts => match Γ.at_ t with
  | some { kind := .struct fs, .. } => match Jjx Γ fs with
   | some (z, _) => Jtj (Jfb Γ cur fs parts.toList z)
   | none => none
  | some { kind := .array n _, sch := some (.arr m s), .. } => if m = n then (Jga s cur H parts.toList (List.replicate n s.dflt) []).map fun x => (true, .dat (.arr n s) x.1, x.2) else none
  | some { kind := .array n e, sch := none, .. } => match Γ.at_ e with
   | some { kind := .func, .. } => Jtj ((Juw cur parts.toList (List.replicate n none)).map .fns)
   | _ => none
  | _ => none
 | .buildSlice t n parts => match Γ.elem t with
  | some (E, s) => if n ≤ 65536 ∧ n * s.cells ≤ 16777216 then match Jga s cur H parts.toList (List.replicate n s.dflt) [] with
    | some (xs, V) => if (V.map (·.1)).contains nid then none else (Ja7 H nid (.row E s xs false)).map fun U => (true, .row nid, V ++ U)
    | none => none
   else none
  | none => none
 | .load t a => Kdz Γ t (e a) H
 | .store t a x => J1q Γ t (e a) (e x) H
 | .nilCheck x => match e x with
  | .ptr o p => if (ASt.obj H o).live then some (true, .ptr o p, []) else none
  | .vptr s y => some (true, .vptr s y, [])
  | .fn f c => some (true, .fn f c, [])
  | _ => none
 | .binOp op t x y _ => Jux (aBin Γ t op (e x) (e y))
 | .unOp op _ x => Jtj (aUn op (e x))
 | .convert s d x => Jq8 Γ s d (e x) H nid
 | .makeFunc (.func f) first caps => if caps.size = 0 ∧ first.size ≠ 0 ∧ first.toList.all (fun x => !(e x).isTup) then some (true, .mv f (first.toList.foldr (fun x r => .pr (e x) r) .un), []) else if first.size = 0 ∧ caps.toList.all (fun x => !(e x).isTup) then some (true, .fn f (caps.toList.foldr (fun x r => .pr (e x) r) .un), []) else none
 | .makeSlice t l c => K0k Γ t l c cur H nid
 | .slice t x lo hi mx => Jux (Jti Γ H t (Kt8 lo hi) (e x) (lo.map e) (hi.map e) (mx.map e))
 | .makeInterface t x => match e x, Γ.at_ t with
  | .dat .unit _, some { kind := .struct _, .. } => some (true, .ifc t, [])
  | _, _ => none
 | .range t x => match e x with
  | .dat .str s => if Γ.sch t == some .str then (Ja7 H nid (.oth (.sit s 0))).map fun U => (true, .ptr nid [], U) else none
  | _ => none
 | .fieldAddr t x f => Jtj (Jjy Γ t (e x) f H)
 | .field t x f => Jtj (Kt7 Γ t (e x) f)
 | .indexAddr t x i => Je2 Γ t (e x) (e i) H
 | .index t x i => Jux (Kt6 Γ t (e x) (e i))
 | .extract x i => match e x with
  | .tup v => match v.comp i with
   | .dead => none
   | u => some (true, u, [])
  | _ => none
 | .makeMap t none => J0r Γ t H nid
 | .lookup t m x ok => Jxj mv Γ t (e m) (e x) ok H nid
 | .mapUpdate t m x u => Jh4 Γ t (e m) (e x) (e u) H
 | .call { callee := .builtin b, args, argTypes } => Jq9 Γ b argTypes.toList (args.toList.map e) H nid
 | _ => none
inductive BV where
 | d (s : Sch) (x : s.T)
 | o (E : TypeId) (s : Sch) (xs : List s.T)
 | f (g : FuncId)
 deriving Inhabited
inductive PM where
 | d (s : Sch)
 | o (E : TypeId) (s : Sch)
 | f
 deriving DecidableEq, Inhabited
def BV.mode : BV → PM
 | .d s _ => .d s
 | .o E s _ => .o E s
 | .f _ => .f
structure Orc where
 ps : List PM
 fresh : Bool
 rows : Nat
 fn : List BV → Option (Bool × List BV)
def Sch.flat : Sch → Bool
 | .slc _ => false
 | .arr _ s => s.flat
 | .pair a b => a.flat && b.flat
 | _ => true
def BV.flat : BV → Bool
 | .d s _ => s.flat
 | .o _ s _ => s.flat
 | .f _ => true
def Jnd (fresh : Bool) (H : List Jah) : PM → AV → Option (BV × Upd)
 | .d s, v => (Jbu fresh H s v).map fun x => (.d s x, if fresh then [] else freezes H v)
 | .o E s, .nils => some (.o E s [], [])
 | .o E s, .row o => match ASt.obj H o with
  | .row E' s' xs false => if h : E' = E ∧ s' = s then some (.o E s (Jcf (s := .slc s') (t := .slc s) (by rw [h.2]) xs), [(o, .gone)]) else none
  | _ => none
 | .f, .fn g .un => some (.f g, [])
 | _, _ => none
def Jh1 (fresh : Bool) (H : List Jah) : List PM → List AV → Option (List BV × Upd)
 | [], [] => some ([], [])
 | m :: ms, v :: vs => match Jnd fresh H m v, Jh1 fresh H ms vs with
  | some (b, U), some (bs, V) => some (b :: bs, U ++ V)
  | _, _ => none
 | _, _ => none
def Kt9 (U : Upd) : List Nat := U.filterMap fun x => match x.2 with | .gone => some x.1 | _ => none
def Jne (U : Upd) (vs : List AV) : Bool := (Kt9 U).all fun o => (vs.flatMap AV.refs).count o == 1
def Jh2 (H : List Jah) : List BV → Nat → Option (List AV × Upd)
 | [], _ => some ([], [])
 | .d s x :: bs, nid => (Jh2 H bs nid).map fun r => (.dat s x :: r.1, r.2)
 | .o E s xs :: bs, nid => match Ja7 H nid (.row E s xs false), Jh2 H bs (nid + 1) with
  | some U, some r => some (.row nid :: r.1, U ++ r.2)
  | _, _ => none
 | .f g :: bs, nid => (Jh2 H bs nid).map fun r => (.fn g .un :: r.1, r.2)
def Koj (bs : List BV) : Nat := (bs.filter fun b => match b with | .o _ _ _ => true | _ => false).length
def J7a : List AV → AV
 | [v] => v
 | vs => .tup (vs.foldr .pr .un)
def unchain : AV → Option (List AV)
 | .un => some []
 | .pr a b => (unchain b).map (a :: ·)
 | _ => none
def K7b (c : Orc) (args : List AV) (H : List Jah) (nid : Nat) : Ans :=
 match Jh1 c.fresh H c.ps args with
 | some (bs, U) => if Jne U args then match c.fn bs with
  | some (pre, rs) => if Koj rs = c.rows ∧ (!c.fresh || rs.all BV.flat) = true then (Jh2 H rs nid).map fun r => (pre, J7a r.1, U ++ r.2) else none
  | none => none
  else none
 | none => none
def Jjc (cur : List AV) (f : Operand) (args : List AV) : Option (FuncId × List AV) :=
 match Jb9 cur f with
 | .fn g caps => (unchain caps).map fun cs => (g, args ++ cs)
 | .mv g fst => (unchain fst).map fun cs => (g, cs ++ args)
 | _ => none
abbrev Jlj := FuncId → Option Orc
def Jf7 (orc : Jlj) (o : Op) : Nat :=
 match o with
 | .alloc _ => 1
 | .box _ _ => 1
 | .buildSlice _ _ _ => 1
 | .convert _ _ _ => 1
 | .makeSlice _ _ _ => 1
 | .range _ _ => 1
 | .makeMap _ _ => 1
 | .lookup _ _ _ _ => 1
 | .call { callee := .builtin .append, .. } => 1
 | .call { callee := .value (.func g), .. } => match orc g with
  | some c => c.rows
  | none => 0
 | .call { callee := .value _, .. } => 4
 | _ => 0
def Jjd (mv : Bool) (Γ : Gam) (orc : Jlj) (o : Op) (cur : List AV) (H : List Jah) (nid : Nat) : Ans :=
 match o with
 | .call { callee := .value f, args, .. } => match Jjc cur f (args.toList.map (Jb9 cur)) with
  | some (g, as) => match orc g with
   | some c => if c.rows ≤ Jf7 orc o then K7b c as H nid else none
   | none => none
  | none => none
 | o => aop mv Γ o cur H nid
def Jnf (orc : Jlj) : List Oper → Nat
 | [] => 0
 | o :: r => Jf7 orc o.op + Jnf orc r
abbrev Kua := FuncId ⊕ Nat
abbrev Jdr (R : Type) := Kua → List AV → ASt → (AV → ASt → Option R) → (TypeId → ASt → Option R) → Option R
section
variable {R : Type}
def Jra (orc : Jlj) (cur : List AV) (o : Op) : Option (Kua × List AV) :=
 match o with
 | .call { callee := .value f, args, .. } => match Jjc cur f (args.toList.map (Jb9 cur)) with
  | some (g, as) => match orc g with
   | some _ => none
   | none => some (.inl g, as)
  | none => match Jb9 cur f with
   | .hnd .yield o => some (.inr o, args.toList.map (Jb9 cur))
   | _ => none
 | _ => none
def Kub (cur : List AV) (o : Op) : Option TypeId :=
 match o with
 | .panic x => match Jb9 cur x with
  | .ifc t => some t
  | _ => none
 | _ => none
def Kuc (o : Op) (cur : List AV) (H : List Jah) : Option (Bool × (AV × Upd) × (AV × Upd)) :=
 match o with
 | .next it true => match Jb9 cur it with
  | .ptr n [] => match ASt.obj H n with
   | .oth (.sit s pos) => some (decide (pos < s.length), (.tup (.pr (.dat .bool true) (.pr (.dat (.int .i64) (pos : Int)) (.pr .dead .un))), [(n, .oth (.sit s (Jtk s pos)))]), (.tup (.pr (.dat .bool false) .un), []))
   | _ => none
  | _ => none
 | _ => none
def Jpr (call : Jdr R) (as : List AV) (st : ASt) (kk : AV → ASt → Option R) (kx : TypeId → ASt → Option R) (i : Nat) : List (Option FuncId) → Nat → Option R
 | [], _ => none
 | g :: r, j => bif Nat.beq i j then match g with
   | some g => call (.inl g) as st kk kx
   | none => none
  else Jpr call as st kk kx i r (j + 1)
def K7m (cur : List AV) (o : Op) : Option (List (Option FuncId) × Nat × List AV) :=
 match o with
 | .call { callee := .value f, args, .. } => match Jb9 cur f with
  | .fsel fs i => some (fs, i, args.toList.map (Jb9 cur))
  | _ => none
 | _ => none
def Jmd (a b : Option R) : Option R :=
 match a with
 | some _ => b
 | none => none
def Kok (H : List Jah) : AV → Option (Bool × Bool)
 | .nils => some (true, false)
 | .emp => some (true, true)
 | .dat (.slc _) xs => some (xs.isEmpty, true)
 | .slx _ xs => some (xs.isEmpty, true)
 | .row o => (ASt.obj H o).elems.map fun e => (e.xs.isEmpty, true)
 | .sl o _ n => (ASt.obj H o).elems.map fun _ => (Nat.beq n 0, true)
 | .pk b _ => some (b, false)
 | _ => none
def Juy (Γ : Gam) (t : TypeId) : Bool :=
 match Γ.at_ t with
 | some { kind := .slice _, .. } => true
 | _ => false
def Kjp (Γ : Gam) (o : Op) (cur : List AV) (H : List Jah) : Option ((Bool × Bool) × Bool) :=
 match o with
 | .binOp .eql t x (.const (.slice none 0 0)) _ => if Juy Γ t then (Kok H (Jb9 cur x)).map fun p => (p, false) else none
 | .binOp .neq t x (.const (.slice none 0 0)) _ => if Juy Γ t then (Kok H (Jb9 cur x)).map fun p => (p, true) else none
 | _ => none
def xop (Γ : Gam) (orc : Jlj) (call : Jdr R) (o : Oper) (nid : Nat) (st : ASt) (kk : ASt → Option R) (kx : TypeId → ASt → Option R) : Option R :=
 match Jra orc st.cur o.op with
 | some (g, as) => call g as st (fun v st' => kk { st' with cur := Jcg st'.cur o.dst v }) kx
 | none => match Kjp Γ o.op st.cur st.heap with
  | some ((may, non), neg) =>
   let way (b : Bool) : Option R := kk { st with cur := Jcg st.cur o.dst (.dat .bool (b != neg)) }
   bif may then (bif non then Jmd (way true) (way false) else way true) else way false
  | none => match Kuc o.op st.cur st.heap with
   | some (c, a, b) =>
    let way (x : AV × Upd) : Option R := kk { st with cur := Jcg st.cur o.dst x.1, heap := upd st.heap x.2 }
    bif c then way a else way b
   | none => match K7m st.cur o.op with
   | some (fs, i, as) => Jpr call as st (fun v st' => kk { st' with cur := Jcg st'.cur o.dst v }) kx i fs 0
   | none => match Jjd false Γ orc o.op st.cur st.heap nid with
   | some (c, v, U) => bif c then kk { st with cur := Jcg st.cur o.dst v, heap := upd st.heap U } else none
   | none => match Kub st.cur o.op with
    | some t => kx t st
    | none => none
def Jge (ops : List Oper) (cur : List AV) (j : Nat) : Option (Nat × Bool) :=
 match (ops[j]?).bind (·.dst) with
 | some d => match cur.getD d .dead with
  | .dat .bool b => some (d, b)
  | _ => none
 | none => none
abbrev und : AV := .tup .un
def K4q : AV → Bool
 | .tup .un => true
 | _ => false
def Jlm (all : List Oper) (cur : List AV) (o : Oper) : Bool :=
 match o.guard with
 | some (j, _) => match (all[j]?).bind (·.dst) with
  | some d => K4q (cur.getD d .dead)
  | none => false
 | none => false
def K7c (Γ : Gam) (orc : Jlj) (call : Jdr R) (o : Oper) (st : ASt) (kk : ASt → Option R) (kx : TypeId → ASt → Option R) : Option R :=
 xop Γ orc call o st.heap.length { st with heap := st.heap ++ List.replicate (Jf7 orc o.op) .free } kk kx
def J1r (Γ : Gam) (orc : Jlj) (call : Jdr R) (all : List Oper) : List Oper → ASt → (ASt → Option R) → (TypeId → ASt → Option R) → Option R
 | [], st, k, _ => k st
 | o :: rest, st, k, kx =>
  bif Jlm all st.cur o then J1r Γ orc call all rest { st with cur := Jcg st.cur o.dst und } k kx else
  match o.guard with
  | none => K7c Γ orc call o st (fun st' => J1r Γ orc call all rest st' k kx) kx
  | some (j, want) => match Jge all st.cur j with
   | none => none
   | some (d, b) =>
    let way (v : Bool) : Option R :=
     let st1 := { st with cur := st.cur.set d (.dat .bool v) }
     if v == want then K7c Γ orc call o st1 (fun st' => J1r Γ orc call all rest st' k kx) kx
     else J1r Γ orc call all rest { st1 with cur := Jcg st1.cur o.dst und } k kx
    bif b then way true else way false
structure FP where
 rd : List Nat
 wr : List Nat
 deriving Inhabited
def Juz (cur : List AV) (o : Op) : List Nat :=
 match o with
 | .move _ => []
 | .assign _ => []
 | o => o.operands.toList.flatMap fun x => (Jb9 cur x).refs
def Kjl (orc : Jlj) (o : Oper) (cur : List AV) (nid : Nat) (U : Upd) : FP :=
 ⟨Juz cur o.op ++ (List.range (Jf7 orc o.op)).map (nid + ·), U.map (·.1)⟩
def FP.indep (a b : FP) : Bool := (a.wr.all fun x => !(b.rd.contains x || b.wr.contains x)) && b.wr.all fun x => !a.rd.contains x
def Jlk (Γ : Gam) (orc : Jlj) (all : List Oper) : List Oper → Nat → List AV → List Jah → List FP → (List AV → List Jah → List FP → Option R) → Option R
 | [], _, cur, H, fps, k => k cur H fps
 | o :: rest, nid, cur, H, fps, k =>
  let go (cur : List AV) : Option R := match Jjd true Γ orc o.op cur H nid with
   | some (c, v, U) => bif c then Jlk Γ orc all rest (nid + Jf7 orc o.op) (Jcg cur o.dst v) (upd H U) (fps ++ [Kjl orc o cur nid U]) k else none
   | none => none
  bif Jlm all cur o then Jlk Γ orc all rest (nid + Jf7 orc o.op) (Jcg cur o.dst und) H (fps ++ [⟨[], []⟩]) k else
  match o.guard with
  | none => go cur
  | some (j, want) => match Jge all cur j with
   | none => none
   | some (d, b) =>
    let way (v : Bool) : Option R :=
     let cur1 := cur.set d (.dat .bool v)
     if v == want then go cur1
     else Jlk Γ orc all rest (nid + Jf7 orc o.op) (Jcg cur1 o.dst und) H (fps ++ [⟨[], []⟩]) k
    bif b then way true else way false
def Jl2 (all : List Oper) (o : Oper) : List Tmp :=
  (o.op.operands.toList.filterMap fun | .tmp t => some t | _ => none) ++
  (match o.guard with
   | some (g, _) => ((all[g]?).bind (·.dst)).toList
   | none => [])
def apart (all : List Oper) (x y : Oper) : Bool :=
  (match x.dst with
   | some d => !(Jl2 all y).contains d && y.dst != some d
   | none => true) &&
  (match y.dst with
   | some d => !(Jl2 all x).contains d
   | none => true)
def Jep : List Oper → List Nat → List Nat
 | [], acc => acc
 | o :: r, acc => Jep r (acc ++ [o.after.toList.foldl (fun s e => if Region.binds .any e then s ||| 2 ^ e.on ||| acc.getD e.on 0 else s) 0])
def J9j (b : Nat) (ops : List Oper) (bs : List Nat) (fps : List FP) : Bool :=
 (List.range b).all fun j => (List.range j).all fun i =>
  (bs.getD j 0).testBit i || (apart ops (ops.getD i default) (ops.getD j default) && (fps.getD i default).indep (fps.getD j default))
def Jtl (ops : List Oper) : Bool :=
 (List.range ops.length).all fun j =>
  (ops.getD j default).after.toList.all fun e => !Region.binds .any e || decide (e.on < j)
def K4r (o : Oper) : Bool :=
 match o.op with
 | .call { callee := .value (.tmp _), .. } => true
 | _ => false
def Jsq (b : Nat) (ops : List Oper) : Bool :=
 decide (b < ops.length) && ((List.range b).all fun i => ((Jep ops []).getD b 0).testBit i) &&
 (List.range ops.length).all fun j => decide (j ≤ b) || (ops.getD j default).after.toList.any fun e => Region.binds .any e && decide (e.on + 1 = j)
def Kol (ops : List Oper) : Bool :=
 match ops.getLast? with
 | some { op := .call { callee := .value _, .. }, type := t, .. } => Nat.beq t 0
 | _ => false
def Jme (ops : List Oper) : Nat :=
 match ops.findIdx? K4r with
 | some b => bif Jsq b ops then b else ops.length
 | none => bif Kol ops && Jsq (ops.length - 1) ops then ops.length - 1 else ops.length
structure Kdv where
 keep : Option (List Nat) := none
 keeps : List (Nat × List Nat) := []
 own : List (Nat × TypeId) := []
 stk : List (List Nat) := []
 dat : List (Nat × TypeId) := []
 fz : List (Nat × List Nat) := []
 ownb : List (Nat × Nat × TypeId) := []
 rg : List (Nat × List (Nat × TypeId)) := []
 rgb : List (Nat × List (Nat × Nat × TypeId)) := []
 deriving Inhabited
def Je8 (ks : List Nat) (cur : List AV) : List AV := cur.zipIdx.map fun x => if ks.contains x.2 then x.1 else .dead
def J9k : List (List Nat) → List (List AV) → List (List AV)
 | ks :: kss, f :: fs => Je8 ks f :: J9k kss fs
 | _, fs => fs
def Jtm (body : ASt → (Jfu → ASt → Option R) → Option R) (norm : ASt → ASt) : Nat → ASt → (Jfu → ASt → Option R) → Option R
 | 0, _, _ => none
 | n + 1, st, k => body st fun e st' => match e with
  | .normal => Jtm body norm n (norm st') k
  | e => k e (norm st')
end
end Go.AI
namespace Go.AI
open Go Go.RowKit
def Koh.refs : Koh → List Nat
 | .lp _ _ fr _ => fr.flatMap AV.refs
 | _ => []
def Jah.refs : Jah → List Nat
 | .box v => v.refs
 | .oth x => x.refs
 | _ => []
def K0m (H : List Jah) : Nat → List Nat → List Nat → List Nat
 | 0, _, seen => seen
 | _, [], seen => seen
 | n + 1, o :: todo, seen => if seen.contains o then K0m H n todo seen else K0m H n ((ASt.obj H o).refs ++ todo) (seen ++ [o])
def AV.rename (f : Nat → Option Nat) : AV → AV
 | .row o => match f o with | some i => .row i | none => .dead
 | .sl o a n => match f o with | some i => .sl i a n | none => .dead
 | .ptr o p => match f o with | some i => .ptr i p | none => .dead
 | .pr a b => .pr (a.rename f) (b.rename f)
 | .fn g c => .fn g (c.rename f)
 | .hnd k o => match f o with | some i => .hnd k i | none => .dead
 | .mv g c => .mv g (c.rename f)
 | .tup a => .tup (a.rename f)
 | v => v
def Koh.rename (f : Nat → Option Nat) : Koh → Koh
 | .lp g key fr st => .lp g key (fr.map (AV.rename f)) st
 | x => x
def Jah.rename (f : Nat → Option Nat) : Jah → Jah
 | .box v => .box (v.rename f)
 | .oth x => .oth (x.rename f)
 | o => o
def Jo1 (l : List Nat) (o : Nat) : Option Nat := l.idxOf? o
def ASt.renumber (st : ASt) (l : List Nat) : ASt :=
 { cur := st.cur.map (AV.rename (Jo1 l)), stk := st.stk.map (·.map (AV.rename (Jo1 l))), heap := l.map fun o => (ASt.obj st.heap o).rename (Jo1 l) }
def Jy7 : List Nat → Bool
 | [] => true
 | x :: l => !l.contains x && Jy7 l
def ASt.canon (st : ASt) : ASt :=
 let roots := st.cur.flatMap AV.refs ++ (st.stk.flatMap fun f => f.flatMap AV.refs)
 let l := K0m st.heap (roots.length + 16 * st.heap.length + 16) roots []
 if Jy7 l && roots.all (l.contains ·) && l.all (fun o => (ASt.obj st.heap o).refs.all (l.contains ·)) then st.renumber l else st
def Jrb (Γ : Gam) : List (Nat × TypeId) → ASt → ASt
 | [], st => st
 | (i, t) :: r, st => match st.cur.getD i .dead, Γ.elem t with
  | .nils, some (E, s) => Jrb Γ r { st with cur := st.cur.set i (.row st.heap.length), heap := st.heap ++ [.row E s [] false] }
  | .emp, some (E, s) => Jrb Γ r { st with cur := st.cur.set i (.row st.heap.length), heap := st.heap ++ [.row E s [] false] }
  | _, _ => Jrb Γ r st
def Jng (Γ : Gam) : List (Nat × TypeId) → ASt → ASt
 | [], st => st
 | (i, t) :: r, st => match Γ.sch t with
  | some s => match Jhg st.heap s (st.cur.getD i .dead) with
   | some (y, U) => Jng Γ r { st with cur := st.cur.set i (.dat s y), heap := upd st.heap U }
   | none => Jng Γ r st
  | none => Jng Γ r st
def Jje (Γ : Gam) : List (Nat × Nat × TypeId) → ASt → ASt
 | [], st => st
 | (i, k, t) :: r, st => match st.cur.getD i .dead, Γ.elem t with
  | .ptr o [], some (E, s) => match ASt.obj st.heap o with
   | .box (.pr a b) => match (AV.pr a b).comp k, (AV.pr a b).lay.comp k, (AV.pr a b).setComp k (.row st.heap.length) with
    | .nils, some _, some (.pr a' b') => Jje Γ r { st with heap := (st.heap ++ [Jah.row E s [] false]).set o (.box (.pr a' b')) }
    | _, _, _ => Jje Γ r st
   | .box .nils => Jje Γ r { st with heap := (st.heap ++ [Jah.row E s [] false]).set o (.box (.row st.heap.length)) }
   | _ => Jje Γ r st
  | _, _ => Jje Γ r st
def K7n (Γ : Gam) (ks : List Nat) (h : Kdv) (st : ASt) : ASt :=
 (Jje Γ h.ownb (Jrb Γ h.own (Jng Γ h.dat { st with cur := Je8 ks st.cur, stk := J9k h.stk st.stk }))).canon
def Kud (l : List Operand) : List Nat := l.filterMap fun | .tmp t => some t | _ => none
def J1s : List Oper → List Nat → List Nat
 | [], _ => []
 | o :: r, w => (Kud o.op.operands.toList).filter (!w.contains ·) ++ J1s r (o.dst.toList ++ w)
def Jc8 : Code → List Nat
 | .region _ ops _ => J1s ops.toList []
 | .seq a b => Jc8 a ++ Jc8 b
 | .cond c a b => Kud [c] ++ Jc8 a ++ Jc8 b
 | .block _ b => Jc8 b
 | .loop b => Jc8 b
 | .rangeFunc f _ a b => Kud [f] ++ Jc8 a ++ Jc8 b
 | .scope b => Jc8 b
 | _ => []
def K0n : ResultVar → Nat
 | .tmp t => t
 | .cell t _ => t
def Jc6 : Code → Option Nat
 | .region id _ _ => some id
 | .seq a b => (Jc6 a).or (Jc6 b)
 | .cond _ a b => (Jc6 a).or (Jc6 b)
 | .block _ b => Jc6 b
 | .loop b => (Jc6 b).map (· + 1000)
 | .scope b => Jc6 b
 | .rangeFunc _ _ a b => (Jc6 a).or (Jc6 b)
 | _ => none
def Jcm (body : Code) : Nat := (Jc6 body).getD 999
def J0s (assign body : Code) : Nat := ((Jc6 assign).or (Jc6 body)).getD 999
def Jbn : Code → List (Nat × Array Tmp × Code × Code)
 | .seq a b => Jbn a ++ Jbn b
 | .cond _ a b => Jbn a ++ Jbn b
 | .block _ b => Jbn b
 | .loop b => Jbn b
 | .rangeFunc _ ps a b => [(J0s a b, ps, a, b)]
 | _ => []
def Jc9 (P : Program) (f : FuncId) : Code := ((P.funcs[f]?).bind (·.body)).getD .skip
def Jnh (P : Program) (f : FuncId) (key : Nat) : Option (Array Tmp × Code × Code) := ((Jbn (Jc9 P f)).find? fun x => Nat.beq x.1 key).map (·.2)
def K3d (h : Kdv) (key : Nat) (ks : List Nat) : List Nat := match h.keeps.lookup key with
 | some l => l
 | none => ks
def Jxk : List Nat → ASt → ASt
 | [], st => st
 | i :: r, st => match st.cur.getD i .dead with
  | .hnd .map o => match ASt.obj st.heap o with
   | .oth (.mps k v _ ks s m none) => Jxk r { st with heap := st.heap.set o (.oth (.mp k v ks (.slc s) m)) }
   | _ => Jxk r st
  | _ => Jxk r st
def fzAt (h : Kdv) (key : Nat) : List Nat := match h.fz.lookup key with
 | some l => l
 | none => []
def rgAt (h : Kdv) (key : Nat) : List (Nat × TypeId) := match h.rg.lookup key with
 | some l => l
 | none => []
def K7o (h : Kdv) (key : Nat) : List (Nat × Nat × TypeId) := match h.rgb.lookup key with
 | some l => l
 | none => []
def Jeq (Γ : Gam) (ks : List Nat) (h : Kdv) (key : Nat) (st : ASt) : ASt :=
 bif Nat.ble 5000 key then Jje Γ (K7o h key) (Jng Γ (rgAt h key) st) else K7n Γ (K3d h key ks) h (Jxk (fzAt h key) st)
def Jio (h : Kdv) (fn : Func) (c : Code) : List Nat :=
 match h.keep with
 | some l => l
 | none => (Jc8 c).eraseDups ++ fn.results.toList.map K0n
section
variable {R : Type}
def pad (orc : Jlj) (ops : List Oper) (H : List Jah) : List Jah := H ++ List.replicate (Jnf orc ops) .free
def Jps (me : FuncId) (key : Nat) (keep : List Nat) (st : ASt) : ASt :=
 { cur := [.hnd .yield st.heap.length], stk := st.cur :: st.stk, heap := st.heap ++ [.oth (.lp me key (Je8 keep st.cur) .ready)] }
def Jni (st : ASt) (k : Jfu → ASt → Option R) : Option R :=
 match st.cur, st.stk with
 | [.hnd .yield o], c0 :: stk => match ASt.obj st.heap o with
  | .oth (.lp _ _ _ .ready) => k .normal { cur := c0, stk := stk, heap := st.heap.set o .gone }
  | .oth (.lp _ _ _ (.done (.exit id))) => k (.exit id) { cur := c0, stk := stk, heap := st.heap.set o .gone }
  | .oth (.lp _ _ _ (.done .ret)) => k .ret { cur := c0, stk := stk, heap := st.heap.set o .gone }
  | _ => none
 | _, _ => none
def Kom : List AV → List Nat → List AV → List AV
 | cur, p :: ps, v :: vs => Kom (cur.set p v) ps vs
 | cur, _, _ => cur
def Kue (o : Nat) (fr : List AV) (ps : List Nat) (args : List AV) (st : ASt) : ASt :=
 { cur := Kom fr ps args, stk := [.hnd .yield o] :: st.cur :: st.stk, heap := st.heap }
def Jrc (s s' : LSt) (st : ASt) : Option ASt :=
 match st.stk with
 | [.hnd .yield o] :: _ => match ASt.obj st.heap o with
  | .oth (.lp f key fr t) => if t = s then some { st with heap := st.heap.set o (.oth (.lp f key fr s')) } else none
  | _ => none
 | _ => none
def Jnj (e : Jfu) (st : ASt) (kk : AV → ASt → Option R) : Option R :=
 match Jrc .busy (match e with | .normal => .ready | e => .done e) st with
 | some st' => match st'.stk with
  | _ :: c0 :: stk => kk (.dat .bool (match e with | .normal => true | _ => false)) { cur := c0, stk := stk, heap := st'.heap }
  | _ => none
 | none => none
def Jpt (Γ : Gam) (orc : Jlj) (call : Jdr R) (me : FuncId) (head : Nat → ASt → ASt) (F : Nat) : Code → ASt → (Jfu → ASt → Option R) → Option R
 | .skip, st, k => k .normal st
 | .region id ops draw, st, k =>
  if draw then
   if Jtl ops.toList then
    (fun st : ASt => Jlk Γ orc ops.toList (ops.toList.take (Jme ops.toList)) st.heap.length st.cur (pad orc (ops.toList.take (Jme ops.toList)) st.heap) [] fun cur H fps =>
     if J9j (Jme ops.toList) ops.toList (Jep ops.toList []) fps then J1r Γ orc call ops.toList (ops.toList.drop (Jme ops.toList)) { st with cur := cur, heap := H } (k .normal) (fun t => k (.panic t)) else none) (head (5000 + id) st)
   else none
  else J1r Γ orc call ops.toList ops.toList (head (5000 + id) st) (k .normal) (fun t => k (.panic t))
 | .seq a b, st, k => Jpt Γ orc call me head F a st fun e st' => match e with
  | .normal => Jpt Γ orc call me head F b st' k
  | e => k e st'
 | .cond c a b, st, k => match Jb9 st.cur c with
  | .dat .bool x => bif x then Jpt Γ orc call me head F a st k else Jpt Γ orc call me head F b st k
  | _ => none
 | .block id body, st, k => Jpt Γ orc call me head F body st fun e st' => match e with
  | .exit i => if i = id then k .normal st' else k (.exit i) st'
  | e => k e st'
 | .loop body, st, k => Jtm (fun st k => Jpt Γ orc call me head F body st k) (head (Jcm body)) F (head (Jcm body) st) k
 | .exit id, st, k => k (.exit id) st
 | .ret, st, k => k .ret st
 | .label _, st, k => k .normal st
 | .rangeFunc f _ assign body, st, k => match Jb9 st.cur f with
  | .fn g caps => match unchain caps with
   | some cs => if (Jbn assign).isEmpty && (Jbn body).isEmpty then
     call (.inl g) (.hnd .yield st.heap.length :: cs) (Jps me (J0s assign body) (Jc8 assign ++ Jc8 body) st) (fun _ st' => Jni st' k) (fun _ _ => none)
    else none
   | none => none
  | _ => none
 | _, _, _ => none
def K4s (Γ : Gam) (H : List Jah) (cur : List AV) : ResultVar → Option AV
 | .tmp t => some (cur.getD t .dead)
 | .cell a t => match Kdz Γ t (cur.getD a .dead) H with
  | some (true, v, []) => some v
  | _ => none
def Ju0 (Γ : Gam) (H : List Jah) (cur : List AV) : List ResultVar → Option (List AV)
 | [] => some []
 | r :: rs => match K4s Γ H cur r, Ju0 Γ H cur rs with
  | some v, some vs => if v.isTup then none else some (v :: vs)
  | _, _ => none
def Jxl (Γ : Gam) (orc : Jlj) (call : Jdr R) (me : FuncId) (h : Kdv) (F : Nat) (fn : Func) (args : List AV) (st : ASt) (kk : List AV → ASt → Option R) (kx : TypeId → ASt → Option R) : Option R :=
 match fn.body with
 | none => none
 | some c =>
  if args.length ≤ fn.ntmps then
   Jpt Γ orc call me (Jeq Γ (Jio h fn c) h) F c { cur := args ++ List.replicate (fn.ntmps - args.length) .dead, stk := st.cur :: st.stk, heap := st.heap } fun e st' =>
    let fin : Option R := match st'.stk with
     | c0 :: stk => match Ju0 Γ st'.heap st'.cur fn.results.toList with
      | some vs => kk vs { cur := c0, stk := stk, heap := st'.heap }
      | none => none
     | [] => none
    match e with
    | .exit _ => none
    | .normal => fin
    | .ret => fin
    | .panic t => match st'.stk with
     | c0 :: stk => kx t { cur := c0, stk := stk, heap := st'.heap }
     | [] => none
  else none
structure Rcv where
 clo : FuncId
 ncap : Nat
 pan : TypeId
 sto : List (Nat × TypeId × Option Bool)
def K7p : Option Bool → AV
 | none => .nils
 | some b => .dat .bool b
def J0t (Γ : Gam) : List (Nat × TypeId × Option Bool) → List AV → List Jah → Option (List Jah)
 | [], _, H => some H
 | (i, t, x) :: r, cs, H => match J1q Γ t (cs.getD i .dead) (K7p x) H with
  | some (true, _, U) => J0t Γ r cs (upd H U)
  | _ => none
def Kjq : Code → Option (Code × Nat × Array Oper × Oper × Oper × Code)
 | .seq a (.seq (.region id ops false) b) => match ops.toList with
  | [o, d] => match o.guard, d.guard, d.dst with
   | none, none, none => some (a, id, ops, o, d, b)
   | _, _, _ => none
  | _ => none
 | _ => none
theorem J7b {c a b : Code} {id : Nat} {ops : Array Oper} {o d : Oper} (h : Kjq c = some (a, id, ops, o, d, b)) : c = .seq a (.seq (.region id ops false) b) ∧ ops.toList = [o, d] ∧ o.guard = none ∧ d.guard = none ∧ d.dst = none := by
 unfold Kjq at h
 split at h
 ·rename_i a' id' ops' b'
  split at h
  ·rename_i o' d' hl
   split at h
   ·rename_i h1 h2 h3
    cases h
    exact ⟨rfl, hl, h1, h2, h3⟩
   ·cases h
  ·cases h
 ·cases h
def J9l (d : Oper) (cur : List AV) : Option (FuncId × List AV) :=
 match d.op with
 | .defer { callee := .value f, args, .. } => if args.isEmpty then match Jb9 cur f with
   | .fn g caps => (unchain caps).map fun cs => (g, cs)
   | _ => none
  else none
 | _ => none
def Ju1 (Γ : Gam) (fn : Func) (H : List Jah) (cur : List AV) (c0 : List AV) (stk : List (List AV)) (kk : List AV → ASt → Option R) : Option R :=
 match Ju0 Γ H cur fn.results.toList with
 | some vs => kk vs { cur := c0, stk := stk, heap := H }
 | none => none
def Kd0 (Γ : Gam) (fn : Func) (rc : Rcv) (kk : List AV → ASt → Option R) (e : Jfu) (st : ASt) : Option R :=
 match st.stk with
 | cs :: c0 :: stk => match e with
  | .normal => Ju1 Γ fn st.heap st.cur c0 stk kk
  | .ret => Ju1 Γ fn st.heap st.cur c0 stk kk
  | .panic t => bif Nat.beq t rc.pan then match J0t Γ rc.sto cs st.heap with
    | some H => Ju1 Γ fn H st.cur c0 stk kk
    | none => none
   else none
  | .exit _ => none
 | _ => none
def Ju2 (Γ : Gam) (orc : Jlj) (call : Jdr R) (ex : Code → ASt → (Jfu → ASt → Option R) → Option R) (fn : Func) (c : Code) (rc : Rcv) (args : List AV) (st : ASt) (kk : List AV → ASt → Option R) : Option R :=
 match Kjq c with
 | none => none
 | some (a, _, _, o, d, b) =>
  if args.length ≤ fn.ntmps then
   ex a { cur := args ++ List.replicate (fn.ntmps - args.length) .dead, stk := st.cur :: st.stk, heap := st.heap } fun e st1 => match e with
    | .normal => K7c Γ orc call o st1 (fun st2 => match J9l d st2.cur with
      | some (g, cs) => bif Nat.beq g rc.clo && Nat.beq cs.length rc.ncap then ex b { st2 with stk := cs :: st2.stk } (Kd0 Γ fn rc kk) else none
      | none => none) (fun _ _ => none)
    | _ => none
  else none
def Ju3 (P : Program) (Γ : Gam) (orc : Jlj) (call : Jdr R) (hint : FuncId → Kdv) (F : Nat) (o : Nat) (args : List AV) (st : ASt) (kk : AV → ASt → Option R) : Option R :=
 match ASt.obj st.heap o with
 | .oth (.lp f key fr .ready) => match P.funcs[f]?, Jnh P f key with
  | some fn, some (ps, assign, body) => if args.length = ps.size ∧ args.all (fun v => !v.isTup) = true then
    let hd := Jeq Γ (Jio (hint f) fn (Jc9 P f)) (hint f)
    Jpt Γ orc call f hd F assign (Kue o fr ps.toList args st) fun e st' => match e with
     | .normal => match Jrc .ready .busy st' with
      | some st2 => Jpt Γ orc call f hd F body st2 fun e st3 => match e with
       | .panic _ => none
       | e => Jnj e st3 kk
      | none => none
     | _ => none
   else none
  | _, _ => none
 | _ => none
structure Book where
 Γ : Gam
 orc : Jlj
 hint : FuncId → Kdv := fun _ => {}
 rcv : FuncId → Option Rcv := fun _ => none
def J5l (P : Program) (B : Book) (F : Nat) : Nat → Jdr R
 | 0 => fun _ _ _ _ _ => none
 | d + 1 => fun g args st kk kx => match g with
  | .inl f => match P.funcs[f]? with
   | some fn => match B.rcv f, fn.body with
    | some rc, some c => Ju2 B.Γ B.orc (J5l P B F d) (Jpt B.Γ B.orc (J5l P B F d) f (Jeq B.Γ (Jio (B.hint f) fn c) (B.hint f)) F) fn c rc args st (fun vs st' => kk (J7a vs) st')
    | _, _ => Jxl B.Γ B.orc (J5l P B F d) f (B.hint f) F fn args st (fun vs st' => kk (J7a vs) st') kx
   | none => none
  | .inr o => Ju3 P B.Γ B.orc (J5l P B F d) B.hint F o args st kk
end
def Jke : List BV → List Jah → List AV × List Jah
 | [], H => ([], H)
 | .d s x :: bs, H => (.dat s x :: (Jke bs H).1, (Jke bs H).2)
 | .o E s xs :: bs, H => (.row H.length :: (Jke bs (H ++ [.row E s xs false])).1, (Jke bs (H ++ [.row E s xs false])).2)
 | .f g :: bs, H => (.fn g .un :: (Jke bs H).1, (Jke bs H).2)
def K0o {R : Type} (P : Program) (B : Book) (F d : Nat) (f : FuncId) (args : List BV) (ms : List PM) (kend : List BV → Option R) : Option R :=
 match P.funcs[f]? with
 | some fn => Jxl B.Γ B.orc (J5l P B F d) f (B.hint f) F fn (Jke args []).1 { cur := [], stk := [], heap := (Jke args []).2 } (fun rs st =>
   match Jh1 false st.heap ms rs with
   | some (bs, U) => if Jne U rs then kend bs else none
   | none => none) (fun _ _ => none)
 | none => none
end Go.AI
