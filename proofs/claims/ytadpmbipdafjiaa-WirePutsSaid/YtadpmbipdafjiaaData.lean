/- The data of the abstract reading of memory: shapes, plain values of a shape, and how cells of memory represent them. -/
import Derived.WalkKit
import Derived.ProofKit
namespace Go.AI
open Go Go.RowKit

/-- The shape of plain data. -/
inductive Sch where
  | int (k : IntKind)
  | bool
  | str
  | slc (s : Sch)
  | arr (n : Nat) (s : Sch)
  | pair (a b : Sch)
  | unit
  deriving DecidableEq, Inhabited

/-- The numbers of an integer kind. -/
@[reducible] def IT : IntKind → Type
  | .u8 => UInt8
  | .u32 => UInt32
  | _ => Int
def toI : (k : IntKind) → IT k → Int
  | .u8, x => (x.toNat : Int)
  | .u32, x => (x.toNat : Int)
  | .i8, x => x
  | .i16, x => x
  | .i32, x => x
  | .i64, x => x
  | .u16, x => x
  | .u64, x => x
def ofI : (k : IntKind) → Int → IT k
  | .u8, x => UInt8.ofNat x.toNat
  | .u32, x => UInt32.ofNat x.toNat
  | .i8, x => x
  | .i16, x => x
  | .i32, x => x
  | .i64, x => x
  | .u16, x => x
  | .u64, x => x

@[reducible] def Sch.T : Sch → Type
  | .int k => IT k
  | .bool => Bool
  | .str => List UInt8
  | .slc s => List s.T
  | .arr _ s => List s.T
  | .pair a b => a.T × b.T
  | .unit => Unit

def Sch.cells : Sch → Nat
  | .arr n s => n * s.cells
  | .pair a b => a.cells + b.cells
  | .unit => 0
  | _ => 1
def Sch.agg : Sch → Bool
  | .arr _ _ => true
  | .pair _ _ => true
  | .unit => true
  | _ => false
def Sch.dflt : (s : Sch) → s.T
  | .int k => ofI k 0
  | .bool => false
  | .str => []
  | .slc _ => []
  | .arr n s => List.replicate n s.dflt
  | .pair a b => (a.dflt, b.dflt)
  | .unit => ()

/-- Elements one behind the other. -/
def RepL {α : Type} (R : α → List Value → Prop) : List α → List Value → Prop
  | [], cs => cs = []
  | x :: xs, cs => ∃ c r, cs = c ++ r ∧ R x c ∧ RepL R xs r

/-- The cells from an address on. -/
def CellsAt (w : World) (ad : Addr) (L : List Value) : Prop := ∀ j u, L[j]? = some u → w.cell? (ad.add j) = some u

/-- Cells represent a plain value; memory is read in blocks that are there and that A does not hold. -/
def RepC (w : World) (A : Nat → Prop) : (s : Sch) → s.T → List Value → Prop
  | .int k, x, cs => cs = [.int k (toI k x)] ∧ (Lit.int k (toI k x)).wf = true
  | .bool, x, cs => cs = [.bool x]
  | .str, x, cs => cs = [.string ⟨x.toArray⟩] ∧ x.length ≤ maxLen
  | .slc s, xs, cs => ∃ a cap, cs = [.slice a xs.length cap] ∧ xs.length ≤ cap ∧ cap ≤ maxLen ∧
      (xs = [] ∨ ∃ ad L, a = some ad ∧ ad.block < w.heap.size ∧ ¬ A ad.block ∧ RepL (RepC w A s) xs L ∧ CellsAt w ad L)
  | .arr n s, xs, cs => xs.length = n ∧ RepL (RepC w A s) xs cs
  | .pair a b, x, cs => ∃ c r, cs = c ++ r ∧ RepC w A a x.1 c ∧ RepC w A b x.2 r
  | .unit, _, cs => cs = []

section RepL
variable {α : Type} {R : α → List Value → Prop} {n : Nat}
theorem RepL.length (hR : ∀ x c, R x c → c.length = n) : ∀ {xs : List α} {L : List Value}, RepL R xs L → L.length = xs.length * n
  | [], L, h => by simp [RepL] at h; simp [h]
  | x :: xs, L, h => by
    obtain ⟨c, r, rfl, hc, hr⟩ := h
    simp only [List.length_append, hR x c hc, RepL.length hR hr, List.length_cons, Nat.add_mul, Nat.one_mul]
    omega
theorem RepL.mono {R' : α → List Value → Prop} (hR : ∀ x c, R x c → R' x c) : ∀ {xs : List α} {L : List Value}, RepL R xs L → RepL R' xs L
  | [], _, h => h
  | _ :: _, _, ⟨c, r, e, hc, hr⟩ => ⟨c, r, e, hR _ _ hc, RepL.mono hR hr⟩
theorem RepL.append : ∀ {xs ys : List α} {L M : List Value}, RepL R xs L → RepL R ys M → RepL R (xs ++ ys) (L ++ M)
  | [], _, _, _, h, k => by simp [RepL] at h; simpa [h] using k
  | _ :: _, _, _, _, ⟨c, r, e, hc, hr⟩, k => ⟨c, r ++ _, by simp [e], hc, RepL.append hr k⟩
theorem RepL.split : ∀ {xs ys : List α} {L : List Value}, RepL R (xs ++ ys) L → ∃ M N, L = M ++ N ∧ RepL R xs M ∧ RepL R ys N
  | [], _, L, h => ⟨[], L, by simp, by simp [RepL], h⟩
  | _ :: _, _, _, ⟨c, r, e, hc, hr⟩ => by
    obtain ⟨M, N, rfl, hM, hN⟩ := RepL.split hr
    exact ⟨c ++ M, N, by simp [e], ⟨c, M, rfl, hc, hM⟩, hN⟩
theorem RepL.take (hR : ∀ x c, R x c → c.length = n) {xs : List α} {L : List Value} (h : RepL R xs L) (k : Nat) : RepL R (xs.take k) (L.take (k * n)) := by
  rw [← List.take_append_drop k xs] at h
  obtain ⟨M, N, rfl, hM, hN⟩ := RepL.split h
  have hl := RepL.length hR hM
  by_cases hk : k ≤ xs.length
  · have : M.length = k * n := by rw [hl, List.length_take, Nat.min_eq_left hk]
    rw [← this, List.take_left]; exact hM
  · have hN' : xs.drop k = [] := List.drop_eq_nil_of_le (by omega)
    rw [hN'] at hN
    simp [RepL] at hN
    subst hN
    have : M.length ≤ k * n := by rw [hl, List.length_take]; exact Nat.mul_le_mul_right _ (by omega)
    rw [List.append_nil, List.take_of_length_le this]; exact hM
theorem RepL.drop (hR : ∀ x c, R x c → c.length = n) {xs : List α} {L : List Value} (h : RepL R xs L) (k : Nat) : RepL R (xs.drop k) (L.drop (k * n)) := by
  rw [← List.take_append_drop k xs] at h
  obtain ⟨M, N, rfl, hM, hN⟩ := RepL.split h
  have hl := RepL.length hR hM
  by_cases hk : k ≤ xs.length
  · have : M.length = k * n := by rw [hl, List.length_take, Nat.min_eq_left hk]
    rw [← this, List.drop_left]; exact hN
  · have hN' : xs.drop k = [] := List.drop_eq_nil_of_le (by omega)
    rw [hN'] at hN ⊢
    simp [RepL] at hN
    subst hN
    have : M.length ≤ k * n := by rw [hl, List.length_take]; exact Nat.mul_le_mul_right _ (by omega)
    rw [List.append_nil, List.drop_eq_nil_of_le this]; simp [RepL]
theorem RepL.one {x : α} {c : List Value} (h : R x c) : RepL R [x] c := ⟨c, [], by simp, h, rfl⟩
theorem RepL.of_one {x : α} {c : List Value} (h : RepL R [x] c) : R x c := by
  obtain ⟨c', r, rfl, hc, hr⟩ := h
  simp [RepL] at hr; subst hr; simpa using hc
/-- The element at an index. -/
theorem RepL.at_ (hR : ∀ x c, R x c → c.length = n) {xs : List α} {L : List Value} (h : RepL R xs L) {i : Nat} {x : α} (hi : xs[i]? = some x) :
    R x ((L.drop (i * n)).take n) := by
  have hlt : i < xs.length := by
    rcases Nat.lt_or_ge i xs.length with h' | h'
    · exact h'
    · rw [List.getElem?_eq_none h'] at hi; cases hi
  have h1 := RepL.take hR (RepL.drop hR h i) 1
  have e : (xs.drop i).take 1 = [x] := by
    rw [List.drop_eq_getElem_cons hlt]
    rw [List.getElem?_eq_getElem hlt] at hi
    injection hi with hi
    simp [hi]
  rw [e, Nat.one_mul] at h1
  exact RepL.of_one h1
/-- An element is put in place. -/
theorem RepL.set (hR : ∀ x c, R x c → c.length = n) {xs : List α} {L : List Value} (h : RepL R xs L) {i : Nat} (hi : i < xs.length) {y : α} {c : List Value} (hy : R y c) :
    RepL R (xs.set i y) (L.take (i * n) ++ c ++ L.drop (i * n + n)) := by
  have h1 := RepL.take hR h i
  have h2 := RepL.drop hR h (i + 1)
  rw [List.set_eq_take_append_cons_drop, if_pos hi, List.append_assoc]
  refine RepL.append h1 ⟨c, _, rfl, hy, ?_⟩
  rwa [Nat.add_mul, Nat.one_mul] at h2
theorem RepL.cells {P : Value → Prop} (hR : ∀ x c, R x c → ∀ u ∈ c, P u) : ∀ {xs : List α} {L : List Value}, RepL R xs L → ∀ u ∈ L, P u
  | [], L, h => by simp [RepL] at h; simp [h]
  | x :: xs, L, h => by
    obtain ⟨c, r, rfl, hc, hr⟩ := h
    intro u hu
    rcases List.mem_append.1 hu with hu | hu
    · exact hR x c hc u hu
    · exact RepL.cells hR hr u hu
end RepL

theorem RepC.length {w : World} {A : Nat → Prop} : ∀ (s : Sch) {x : s.T} {c : List Value}, RepC w A s x c → c.length = s.cells
  | .int k, _, _, h => by obtain ⟨rfl, _⟩ := h; rfl
  | .bool, _, _, h => by simp [RepC] at h; simp [h, Sch.cells]
  | .str, _, _, h => by obtain ⟨rfl, _⟩ := h; rfl
  | .slc s, _, _, h => by obtain ⟨a, cap, rfl, _⟩ := h; rfl
  | .arr n s, xs, c, h => by
    obtain ⟨hl, hr⟩ := h
    rw [RepL.length (fun x c => RepC.length s) hr, hl]; rfl
  | .pair a b, x, _, h => by
    obtain ⟨c, r, rfl, h1, h2⟩ := h
    rw [List.length_append, RepC.length a h1, RepC.length b h2]; rfl
  | .unit, _, _, h => by simp [RepC] at h; simp [h, Sch.cells]

theorem RepC.oneCell {w : World} {A : Nat → Prop} : ∀ (s : Sch) {x : s.T} {c : List Value}, RepC w A s x c → ∀ u ∈ c, u.oneCell' = true
  | .int k, _, _, h => by obtain ⟨rfl, _⟩ := h; simp [Value.oneCell']
  | .bool, _, _, h => by simp [RepC] at h; simp [h, Value.oneCell']
  | .str, _, _, h => by obtain ⟨rfl, _⟩ := h; simp [Value.oneCell']
  | .slc s, _, _, h => by obtain ⟨a, cap, rfl, _⟩ := h; simp [Value.oneCell']
  | .arr n s, xs, c, h => RepL.cells (fun x c hc => RepC.oneCell s hc) h.2
  | .pair a b, x, _, h => by
    obtain ⟨c, r, rfl, h1, h2⟩ := h
    intro u hu
    rcases List.mem_append.1 hu with hu | hu
    · exact RepC.oneCell a h1 u hu
    · exact RepC.oneCell b h2 u hu
  | .unit, _, _, h => by simp [RepC] at h; simp [h]

/-- What A does not hold, and is there, is as it was. -/
structure Keeps (A : Nat → Prop) (w w' : World) : Prop where
  size : w.heap.size ≤ w'.heap.size
  block : ∀ b, b < w.heap.size → ¬ A b → w'.heap[b]? = w.heap[b]?

theorem Addr.add_block (a : Addr) (j : Nat) : (a.add j).block = a.block := by unfold Addr.add; split <;> rfl

theorem CellsAt.keeps {A : Nat → Prop} {w w' : World} (hk : Keeps A w w') {ad : Addr} {L : List Value} (hb : ad.block < w.heap.size) (hA : ¬ A ad.block) (h : CellsAt w ad L) : CellsAt w' ad L := by
  intro j u hu
  rw [World.cell?_of_block (w := w) (by rw [Addr.add_block]; exact hk.block _ hb hA)]
  exact h j u hu

theorem RepC.keeps {A A' : Nat → Prop} {w w' : World} (hk : Keeps A w w') (hA : ∀ b, b < w.heap.size → A' b → A b) :
    ∀ (s : Sch) {x : s.T} {c : List Value}, RepC w A s x c → RepC w' A' s x c
  | .int k, _, _, h => h
  | .bool, _, _, h => h
  | .str, _, _, h => h
  | .slc s, xs, _, h => by
    obtain ⟨a, cap, rfl, h1, h2, h3⟩ := h
    refine ⟨a, cap, rfl, h1, h2, h3.imp id ?_⟩
    rintro ⟨ad, L, rfl, hb, hn, hr, hc⟩
    exact ⟨ad, L, rfl, Nat.lt_of_lt_of_le hb hk.size, fun h => hn (hA _ hb h), RepL.mono (fun x c => RepC.keeps hk hA s) hr, hc.keeps hk hb hn⟩
  | .arr n s, xs, c, h => ⟨h.1, RepL.mono (fun x c => RepC.keeps hk hA s) h.2⟩
  | .pair a b, x, _, h => by
    obtain ⟨c, r, rfl, h1, h2⟩ := h
    exact ⟨c, r, rfl, RepC.keeps hk hA a h1, RepC.keeps hk hA b h2⟩
  | .unit, _, _, h => h

end Go.AI
