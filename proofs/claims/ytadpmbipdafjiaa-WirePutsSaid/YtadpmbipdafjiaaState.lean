/- The objects of the abstract machine in the model's memory, and the steps that keep them. -/
import Derived.Test.YtadpmbipdafjiaaRel
namespace Go.AI
open Go Go.RowKit

/-- Where a run began: its world, the old blocks that it may write, the blocks that are none of its business. -/
structure Ctx where
  w0 : World
  S : List Nat
  X : Nat → Prop

/-- What was there at the start is as it was, but for what may be written. -/
structure Fr (c : Ctx) (w : World) : Prop where
  os : w.os = c.w0.os
  tape : w.tape = c.w0.tape
  output : w.output = c.w0.output
  size : c.w0.heap.size ≤ w.heap.size
  block : ∀ b, b < c.w0.heap.size → b ∉ c.S → w.heap[b]? = c.w0.heap[b]?

/-- A block known whole, of which no cell is frozen. -/
def Blk (w : World) (g : Nat) (E : TypeId) (cur : Array Value) : Prop :=
  ∃ fr : Nat × Nat, w.heap[g]? = some (.cells cur E fr) ∧ (fr.1 = fr.2 ∨ cur.size ≤ fr.1)

/-- The place of an object of the call's own. -/
structure Own (c : Ctx) (g : Nat) : Prop where
  may : g ∈ c.S ∨ c.w0.heap.size ≤ g
  notX : ¬ c.X g

def RowOk (w : World) (A : Nat → Prop) (E : TypeId) (s : Sch) (xs : List s.T) (g C : Nat) : Prop :=
  ∃ cur, Blk w g E cur ∧ cur.size = C * s.cells ∧ xs.length ≤ C ∧ C ≤ maxLen ∧ RepL (RepC w A s) xs (cur.toList.take (xs.length * s.cells))

def ObjOk (c : Ctx) (w : World) (A : Nat → Prop) (H : List AObj) (ρ : Rho) (o : Nat) : AObj → Prop
  | .row E s xs _ => (ρ o = none ∧ xs = []) ∨ ∃ g C, ρ o = some (g, C) ∧ Own c g ∧ RowOk w A E s xs g C
  | .box v => ∃ g C E cur, ρ o = some (g, C) ∧ Own c g ∧ Blk w g E cur ∧ RX w A H ρ v true cur.toList ∧ v.stands = true ∧
      ∀ e, (AObj.box v).elems = some e → C = e.xs.length ∧ C ≤ maxLen
  | _ => True

structure StOk (c : Ctx) (w : World) (H : List AObj) (ρ : Rho) : Prop where
  obj : ∀ o, ObjOk c w (Avoid c.X H ρ) H ρ o (ASt.obj H o)
  inj : ∀ o o' g C C', (ASt.obj H o).live = true → (ASt.obj H o').live = true → ρ o = some (g, C) → ρ o' = some (g, C') → o = o'
  fr : Fr c w
  old : ∀ b, c.X b → b < c.w0.heap.size

/-- A step of the model beside one of the abstract machine. -/
structure Tr (c : Ctx) (w : World) (H : List AObj) (ρ : Rho) (w' : World) (H' : List AObj) (ρ' : Rho) : Prop where
  keeps : Keeps (Avoid c.X H ρ) w w'
  avoid : ∀ b, b < w.heap.size → Avoid c.X H' ρ' b → Avoid c.X H ρ b
  compat : Compat H ρ H' ρ'
  ok : StOk c w' H' ρ'

variable {c : Ctx} {w w' w'' : World} {H H' H'' : List AObj} {ρ ρ' ρ'' : Rho} {o : Nat}

theorem Keeps.refl (A : Nat → Prop) (w : World) : Keeps A w w := ⟨Nat.le_refl _, fun _ _ _ => rfl⟩
theorem Tr.refl (h : StOk c w H ρ) : Tr c w H ρ w H ρ := ⟨Keeps.refl _ _, fun _ _ h => h, Compat.refl _ _, h⟩
theorem Tr.trans (h : Tr c w H ρ w' H' ρ') (k : Tr c w' H' ρ' w'' H'' ρ'') : Tr c w H ρ w'' H'' ρ'' :=
  ⟨⟨Nat.le_trans h.keeps.size k.keeps.size, fun b hb hA =>
      (k.keeps.block b (Nat.lt_of_lt_of_le hb h.keeps.size) (fun hA' => hA (h.avoid b hb hA'))).trans (h.keeps.block b hb hA)⟩,
    fun b hb hA => h.avoid b hb (k.avoid b (Nat.lt_of_lt_of_le hb h.keeps.size) hA), h.compat.trans k.compat, k.ok⟩
theorem Tr.rv (h : Tr c w H ρ w' H' ρ') {v : AV} {val : Value} (hv : RV w (Avoid c.X H ρ) H ρ v val) : RV w' (Avoid c.X H' ρ') H' ρ' v val :=
  RV.mono h.keeps h.avoid h.compat hv
theorem Tr.rx (h : Tr c w H ρ w' H' ρ') {v : AV} {m : Bool} {cs : List Value} (hv : RX w (Avoid c.X H ρ) H ρ v m cs) : RX w' (Avoid c.X H' ρ') H' ρ' v m cs :=
  RX.mono h.keeps h.avoid h.compat v m hv
theorem Tr.rep (h : Tr c w H ρ w' H' ρ') {s : Sch} {x : s.T} {cs : List Value} (hv : RepC w (Avoid c.X H ρ) s x cs) : RepC w' (Avoid c.X H' ρ') s x cs :=
  RepC.keeps h.keeps h.avoid s hv

theorem obj_of_ge (h : H.length ≤ o) : ASt.obj H o = .free := by simp [ASt.obj, List.getD, List.getElem?_eq_none h]
theorem obj_lt (h : ASt.obj H o ≠ .free) : o < H.length := by
  rcases Nat.lt_or_ge o H.length with h' | h'
  · exact h'
  · exact absurd (obj_of_ge h') h
theorem obj_set_same (h : o < H.length) (ob : AObj) : ASt.obj (H.set o ob) o = ob := by simp [ASt.obj, List.getD, h]
theorem obj_set_other {i : Nat} (h : i ≠ o) (ob : AObj) : ASt.obj (H.set i ob) o = ASt.obj H o := by simp [ASt.obj, List.getD, List.getElem?_set_ne h]

theorem Blk.lt {g : Nat} {E : TypeId} {cur : Array Value} (h : Blk w g E cur) : g < w.heap.size := by
  obtain ⟨fr, h, _⟩ := h
  exact (Array.getElem?_eq_some_iff.1 h).1
theorem Blk.cell {g : Nat} {E : TypeId} {cur : Array Value} (h : Blk w g E cur) (i : Nat) : w.cell? ⟨g, i, none⟩ = cur[i]? := by
  obtain ⟨fr, h, _⟩ := h
  exact cell_of_row w g i cur E fr h
theorem Blk.frozen {g : Nat} {E : TypeId} {cur : Array Value} (h : Blk w g E cur) {i : Nat} (hi : i < cur.size) : w.frozen? ⟨g, i, none⟩ = false := by
  obtain ⟨fr, h, hf⟩ := h
  simp only [World.frozen?, h]
  simp only [Bool.and_eq_false_iff, decide_eq_false_iff_not]
  omega
theorem Blk.keeps {A : Nat → Prop} (hk : Keeps A w w') {g : Nat} {E : TypeId} {cur : Array Value} (h : Blk w g E cur) (hA : ¬ A g) : Blk w' g E cur := by
  have hl := h.lt
  obtain ⟨fr, h, hf⟩ := h
  exact ⟨fr, (hk.block g hl hA).trans h, hf⟩

/-- The blocks that objects lie in. -/
theorem StOk.lt (h : StOk c w H ρ) {g C : Nat} (ho : (ASt.obj H o).live = true) (hr : ρ o = some (g, C)) : g < w.heap.size ∧ Own c g := by
  have := h.obj o
  cases hb : ASt.obj H o with
  | gone => rw [hb] at ho; simp [AObj.live] at ho
  | free => rw [hb] at ho; simp [AObj.live] at ho
  | row E s xs fz =>
    rw [hb] at this
    rcases this with ⟨h1, _⟩ | ⟨g', C', h1, h2, cur, h3, _⟩
    · rw [hr] at h1; cases h1
    · rw [hr] at h1; cases h1; exact ⟨h3.lt, h2⟩
  | box v =>
    rw [hb] at this
    obtain ⟨g', C', E, cur, h1, h2, h3, _⟩ := this
    rw [hr] at h1; cases h1; exact ⟨h3.lt, h2⟩

theorem RowOk.mono {A A' : Nat → Prop} (hk : Keeps A w w') (hA : ∀ b, b < w.heap.size → A' b → A b) {E : TypeId} {s : Sch} {xs : List s.T} {g C : Nat} (h : RowOk w A E s xs g C)
    (hb : w'.heap[g]? = w.heap[g]?) : RowOk w' A' E s xs g C := by
  obtain ⟨cur, ⟨fr, h1, hf⟩, h2, h3, h4, h5⟩ := h
  exact ⟨cur, ⟨fr, hb.trans h1, hf⟩, h2, h3, h4, RepL.mono (fun x c => RepC.keeps hk hA s) h5⟩

/-- An object stays as it is where its block does. -/
theorem ObjOk.mono (hk : Keeps (Avoid c.X H ρ) w w') (hA : ∀ b, b < w.heap.size → Avoid c.X H' ρ' b → Avoid c.X H ρ b) (hc : Compat H ρ H' ρ') {ob : AObj}
    (h : ObjOk c w (Avoid c.X H ρ) H ρ o ob) (hr : ρ' o = ρ o) (hb : ob.live = true → ∀ g C, ρ o = some (g, C) → w'.heap[g]? = w.heap[g]?) : ObjOk c w' (Avoid c.X H' ρ') H' ρ' o ob := by
  cases ob with
  | gone => trivial
  | free => trivial
  | row E s xs fz =>
    rcases h with ⟨h1, h2⟩ | ⟨g, C, h1, h2, h3⟩
    · exact .inl ⟨hr.trans h1, h2⟩
    · exact .inr ⟨g, C, hr.trans h1, h2, h3.mono hk hA (hb rfl g C h1)⟩
  | box v =>
    obtain ⟨g, C, E, cur, h1, h2, ⟨fr, h3, hf⟩, h4, h5, h6⟩ := h
    exact ⟨g, C, E, cur, hr.trans h1, h2, ⟨fr, (hb rfl g C h1).trans h3, hf⟩, RX.mono hk hA hc v true h4, h5, h6⟩

/-- A world of which no block has turned (a draw). -/
theorem Tr.same (h : StOk c w H ρ) (hh : w'.heap = w.heap) (h1 : w'.os = w.os) (h2 : w'.tape = w.tape) (h3 : w'.output = w.output) : Tr c w H ρ w' H ρ := by
  have hk : Keeps (Avoid c.X H ρ) w w' := ⟨by rw [hh]; exact Nat.le_refl _, fun b _ _ => by rw [hh]⟩
  refine ⟨hk, fun _ _ h => h, Compat.refl _ _, ⟨fun o => ?_, h.inj, ⟨h1.trans h.fr.os, h2.trans h.fr.tape, h3.trans h.fr.output, by rw [hh]; exact h.fr.size, fun b hb hS => by rw [hh]; exact h.fr.block b hb hS⟩, h.old⟩⟩
  exact (h.obj o).mono hk (fun _ _ h => h) (Compat.refl _ _) rfl (fun _ g C _ => by rw [hh])
theorem Tr.drew (h : StOk c w H ρ) : Tr c w H ρ w.drew H ρ := Tr.same h rfl rfl rfl rfl

def updR (ρ : Rho) (n : Nat) (r : Option (Nat × Nat)) : Rho := fun o => if o = n then r else ρ o
theorem updR_same (n : Nat) (r : Option (Nat × Nat)) : updR ρ n r n = r := by simp [updR]
theorem updR_other {n o : Nat} (h : o ≠ n) (r : Option (Nat × Nat)) : updR ρ n r o = ρ o := by simp [updR, h]

theorem heap_alloc (w : World) (b : Obj) (k : Nat) (h : k < w.heap.size) : (w.alloc b).heap[k]? = w.heap[k]? := by
  show (w.heap.push b)[k]? = _
  rw [Array.getElem?_push, if_neg (Nat.ne_of_lt h)]

/-- A step that concerns one object, whose number is n; some others may be forgotten. -/
theorem Tr.one (h : StOk c w H ρ) (n : Nat) (hk : Keeps (Avoid c.X H ρ) w w') (hA : ∀ b, b < w.heap.size → Avoid c.X H' ρ' b → Avoid c.X H ρ b) (hc : Compat H ρ H' ρ') (hfr : Fr c w')
    (hH : ∀ o, o ≠ n → (ASt.obj H' o).live = true → ASt.obj H' o = ASt.obj H o) (hρ : ∀ o, o ≠ n → ρ' o = ρ o)
    (hb : ∀ o, o ≠ n → (ASt.obj H' o).live = true → ∀ g C, ρ o = some (g, C) → w'.heap[g]? = w.heap[g]?)
    (hn : ObjOk c w' (Avoid c.X H' ρ') H' ρ' n (ASt.obj H' n))
    (hi : ∀ o, o ≠ n → (ASt.obj H' o).live = true → ∀ g C C', ρ' n = some (g, C) → (ASt.obj H' n).live = true → ρ o ≠ some (g, C')) : Tr c w H ρ w' H' ρ' := by
  refine ⟨hk, hA, hc, ⟨fun o => ?_, ?_, hfr, h.old⟩⟩
  · by_cases hon : o = n
    · subst hon; exact hn
    · rcases (ASt.obj H' o).cases3 with hg | hg | hl
      · rw [hg]; trivial
      · rw [hg]; trivial
      · rw [hH o hon hl]
        exact (h.obj o).mono hk hA hc (hρ o hon) (fun _ g C hr => hb o hon hl g C hr)
  · intro o o' g C1 C2 hg hg' hr hr'
    by_cases hon : o = n <;> by_cases hon' : o' = n
    · omega
    · subst hon
      rw [hρ o' hon'] at hr'
      exact absurd hr' (hi o' hon' hg' g C1 C2 hr hg)
    · subst hon'
      rw [hρ o hon] at hr
      exact absurd hr (hi o hon hg g C2 C1 hr' hg')
    · rw [hρ o hon] at hr
      rw [hρ o' hon'] at hr'
      rw [hH o hon hg] at hg
      rw [hH o' hon' hg'] at hg'
      exact h.inj o o' g C1 C2 hg hg' hr hr'

/-- What an object's cells must be. -/
def Holds (w : World) (A : Nat → Prop) (H : List AObj) (ρ : Rho) (ob : AObj) (E : TypeId) (C : Nat) (cur : Array Value) : Prop :=
  match ob with
  | .row E' s xs _ => E' = E ∧ cur.size = C * s.cells ∧ xs.length ≤ C ∧ C ≤ maxLen ∧ RepL (RepC w A s) xs (cur.toList.take (xs.length * s.cells))
  | .box v => RX w A H ρ v true cur.toList ∧ v.stands = true ∧ ∀ e, (AObj.box v).elems = some e → C = e.xs.length ∧ C ≤ maxLen
  | _ => True

theorem Holds.ok {ob : AObj} {E : TypeId} {C : Nat} {cur : Array Value} (hk : Keeps (Avoid c.X H ρ) w w') (hA : ∀ b, b < w.heap.size → Avoid c.X H' ρ' b → Avoid c.X H ρ b) (hc : Compat H ρ H' ρ')
    (h : Holds w (Avoid c.X H ρ) H ρ ob E C cur) {g : Nat} (hr : ρ' o = some (g, C)) (ho : Own c g) (hb : Blk w' g E cur) : ObjOk c w' (Avoid c.X H' ρ') H' ρ' o ob := by
  cases ob with
  | gone => trivial
  | free => trivial
  | row E' s xs fz =>
    obtain ⟨rfl, h1, h2, h3, h4⟩ := h
    exact .inr ⟨g, C, hr, ho, cur, hb, h1, h2, h3, RepL.mono (fun x c => RepC.keeps hk hA s) h4⟩
  | box v =>
    obtain ⟨h1, h2, h3⟩ := h
    exact ⟨g, C, E, cur, hr, ho, hb, RX.mono hk hA hc v true h1, h2, h3⟩

theorem Compat.new {n : Nat} (hf : ASt.obj H n = .free) (hH : ∀ o, o ≠ n → ASt.obj H' o = ASt.obj H o) (hρ : ∀ o, o ≠ n → ρ' o = ρ o) : Compat H ρ H' ρ' := fun o ho => by
  have hon : o ≠ n := by rintro rfl; exact ho hf
  rw [hH o hon, hρ o hon]
  exact Compat.refl H ρ o ho

/-- A new object in a new block. -/
theorem Tr.alloc (h : StOk c w H ρ) {n : Nat} (hn : n < H.length) (hfree : ASt.obj H n = .free) {ob : AObj} {cur : Array Value} {E : TypeId} {fr : Nat × Nat} {C : Nat}
    (hf : fr.1 = fr.2 ∨ cur.size ≤ fr.1) (hob : Holds w (Avoid c.X H ρ) H ρ ob E C cur) :
    Tr c w H ρ (w.alloc (.cells cur E fr)) (H.set n ob) (updR ρ n (some (w.heap.size, C))) := by
  have hk : Keeps (Avoid c.X H ρ) w (w.alloc (.cells cur E fr)) := ⟨by simp, fun b hb _ => heap_alloc w _ b hb⟩
  have hnew : ASt.obj (H.set n ob) n = ob := obj_set_same hn ob
  have old : ∀ o, o ≠ n → ASt.obj (H.set n ob) o = ASt.obj H o := fun o ho => obj_set_other (Ne.symm ho) _
  have hc : Compat H ρ (H.set n ob) (updR ρ n (some (w.heap.size, C))) := Compat.new hfree old (fun o ho => updR_other ho _)
  have hA : ∀ b, b < w.heap.size → Avoid c.X (H.set n ob) (updR ρ n (some (w.heap.size, C))) b → Avoid c.X H ρ b := by
    intro b hb hA
    rcases hA with hA | ⟨o, C', hm, hr⟩
    · exact .inl hA
    · by_cases ho : o = n
      · subst ho; rw [updR_same] at hr; cases hr; omega
      · rw [updR_other ho] at hr
        rw [old o ho] at hm
        exact .inr ⟨o, C', hm, hr⟩
  have hfr : Fr c (w.alloc (.cells cur E fr)) := ⟨h.fr.os, h.fr.tape, h.fr.output, Nat.le_trans h.fr.size hk.size, fun b hb hS => (heap_alloc w _ b (Nat.lt_of_lt_of_le hb h.fr.size)).trans (h.fr.block b hb hS)⟩
  refine Tr.one h n hk hA hc hfr (fun o ho _ => old o ho) (fun o ho => updR_other ho _) (fun o ho hl g C' hr => ?_) ?_ (fun o ho hl g C1 C2 hr _ hr' => ?_)
  · rw [old o ho] at hl
    exact heap_alloc w _ g (h.lt hl hr).1
  · rw [hnew]
    exact hob.ok hk hA hc (updR_same _ _) ⟨.inr h.fr.size, fun hx => by have := h.old _ hx; have := h.fr.size; omega⟩ ⟨fr, heap_alloc_new w _, hf⟩
  · rw [updR_same] at hr
    cases hr
    rw [old o ho] at hl
    have := (h.lt hl hr').1; omega

/-- A new empty row without a block. -/
theorem Tr.nothing (h : StOk c w H ρ) {n : Nat} (hn : n < H.length) (hfree : ASt.obj H n = .free) (E : TypeId) (s : Sch) : Tr c w H ρ w (H.set n (.row E s [] false)) (updR ρ n none) := by
  have hnew : ASt.obj (H.set n (.row E s [] false)) n = .row E s [] false := obj_set_same hn _
  have old : ∀ o, o ≠ n → ASt.obj (H.set n (.row E s [] false)) o = ASt.obj H o := fun o ho => obj_set_other (Ne.symm ho) _
  refine Tr.one h n (Keeps.refl _ _) ?_ (Compat.new hfree old (fun o ho => updR_other ho _)) h.fr (fun o ho _ => old o ho) (fun o ho => updR_other ho _) (fun _ _ _ _ _ _ => rfl) ?_ ?_
  · intro b hb hA
    rcases hA with hA | ⟨o, C', hm, hr⟩
    · exact .inl hA
    · by_cases ho : o = n
      · subst ho; rw [updR_same] at hr; cases hr
      · rw [updR_other ho] at hr; rw [old o ho] at hm; exact .inr ⟨o, C', hm, hr⟩
  · rw [hnew]; exact .inl ⟨updR_same _ _, rfl⟩
  · intro o ho hg g C C' hr; rw [updR_same] at hr; cases hr

theorem obj_set_gone (n : Nat) : (ASt.obj (H.set n .gone) n).live = false := by
  rcases Nat.lt_or_ge n H.length with hlt | hge
  · rw [obj_set_same hlt]; rfl
  · rw [obj_of_ge (by simpa using hge)]; rfl

/-- An object is forgotten. -/
theorem Tr.forget (h : StOk c w H ρ) (n : Nat) : Tr c w H ρ w (H.set n .gone) ρ := by
  have hn := obj_set_gone (H := H) n
  have old : ∀ o, o ≠ n → ASt.obj (H.set n .gone) o = ASt.obj H o := fun o ho => obj_set_other (Ne.symm ho) _
  refine Tr.one h n (Keeps.refl _ _) ?_ (fun o ho => ?_) h.fr (fun o ho _ => old o ho) (fun _ _ => rfl) (fun _ _ _ _ _ _ => rfl) ?_ (fun o ho hg g C C' hr hgn => by rw [hn] at hgn; cases hgn)
  · intro b hb hA
    rcases hA with hA | ⟨o, C', hm, hr⟩
    · exact .inl hA
    · by_cases ho : o = n
      · subst ho; rw [AObj.mut_live hm] at hn; cases hn
      · rw [old o ho] at hm; exact .inr ⟨o, C', hm, hr⟩
  · by_cases hon : o = n
    · subst hon; exact .inl (obj_set_same (obj_lt ho) _)
    · rw [old o hon]; exact Compat.refl H ρ o ho
  · rcases (ASt.obj (H.set n .gone) n).cases3 with e | e | e
    · rw [e]; trivial
    · rw [e]; trivial
    · rw [e] at hn; cases hn

/-- An object is frozen. -/
theorem Tr.freeze (h : StOk c w H ρ) (n : Nat) : Tr c w H ρ w (H.set n (freezeObj (ASt.obj H n))) ρ := by
  by_cases hlt : n < H.length
  case neg => rw [List.set_eq_of_length_le (by omega)]; exact Tr.refl h
  have hn : ASt.obj (H.set n (freezeObj (ASt.obj H n))) n = freezeObj (ASt.obj H n) := obj_set_same hlt _
  have old : ∀ o, o ≠ n → ASt.obj (H.set n (freezeObj (ASt.obj H n))) o = ASt.obj H o := fun o ho => obj_set_other (Ne.symm ho) _
  have hmut : ∀ ob, (freezeObj ob).mut = true → ob.mut = true := by intro ob; cases ob <;> simp [freezeObj, AObj.mut]
  have hlive : ∀ ob, (freezeObj ob).live = ob.live := by intro ob; cases ob <;> simp [freezeObj, AObj.live]
  have hA : ∀ b, b < w.heap.size → Avoid c.X (H.set n (freezeObj (ASt.obj H n))) ρ b → Avoid c.X H ρ b := by
    intro b hb hA
    rcases hA with hA | ⟨o, C', hm, hr⟩
    · exact .inl hA
    · by_cases ho : o = n
      · subst ho; rw [hn] at hm; exact .inr ⟨o, C', hmut _ hm, hr⟩
      · rw [old o ho] at hm; exact .inr ⟨o, C', hm, hr⟩
  have hc : Compat H ρ (H.set n (freezeObj (ASt.obj H n))) ρ := fun o ho => by
    by_cases hon : o = n
    · subst hon
      rw [hn]
      cases hob : ASt.obj H o with
      | free => exact absurd hob ho
      | gone => exact .inl rfl
      | row E s xs fz => exact .inr ⟨rfl, rfl, rfl, rfl, rfl⟩
      | box v => exact .inr ⟨rfl, rfl, rfl, rfl, rfl⟩
    · rw [old o hon]; exact Compat.refl H ρ o ho
  refine Tr.one h n (Keeps.refl _ _) hA hc h.fr (fun o ho _ => old o ho) (fun _ _ => rfl) (fun _ _ _ _ _ _ => rfl) ?_ ?_
  · rw [hn]
    have hob := (h.obj n).mono (Keeps.refl _ _) hA hc rfl (fun _ _ _ _ => rfl)
    cases e : ASt.obj H n with
    | gone => trivial
    | free => trivial
    | row E s xs fz => rw [e] at hob; exact hob
    | box v => rw [e] at hob; exact hob
  · intro o ho hg g C C' hr hgn hr'
    rw [old o ho] at hg
    rw [hn, hlive] at hgn
    exact ho (h.inj o n g C' C hg hgn hr' hr)

/-- An object of the call's own is written. -/
theorem Tr.write (h : StOk c w H ρ) {n g C : Nat} {ob : AObj} {E : TypeId} {cur : Array Value} (hm : (ASt.obj H n).mut = true) (hr : ρ n = some (g, C))
    (hb : Blk w' g E cur) (hoth : ∀ b, b ≠ g → w'.heap[b]? = w.heap[b]?) (hsz : w'.heap.size = w.heap.size) (h1 : w'.os = w.os) (h2 : w'.tape = w.tape) (h3 : w'.output = w.output)
    (hob : Holds w (Avoid c.X H ρ) H ρ ob E C cur) (hl : ob.lay = (ASt.obj H n).lay) (hs : ob.shape = (ASt.obj H n).shape) (hg : ob.live = true) : Tr c w H ρ w' (H.set n ob) ρ := by
  have hgn : (ASt.obj H n).live = true := AObj.mut_live hm
  have hlt := obj_lt (AObj.live_ne_free hgn)
  have hn : ASt.obj (H.set n ob) n = ob := obj_set_same hlt _
  have old : ∀ o, o ≠ n → ASt.obj (H.set n ob) o = ASt.obj H o := fun o ho => obj_set_other (Ne.symm ho) _
  have hav : Avoid c.X H ρ g := .inr ⟨n, C, hm, hr⟩
  have hk : Keeps (Avoid c.X H ρ) w w' := ⟨by omega, fun b _ hA => hoth b (fun e => hA (e ▸ hav))⟩
  have hA : ∀ b, b < w.heap.size → Avoid c.X (H.set n ob) ρ b → Avoid c.X H ρ b := by
    intro b hb hA
    rcases hA with hA | ⟨o, C', hm', hr'⟩
    · exact .inl hA
    · by_cases ho : o = n
      · subst ho; exact .inr ⟨o, C', hm, hr'⟩
      · rw [old o ho] at hm'; exact .inr ⟨o, C', hm', hr'⟩
  have hc : Compat H ρ (H.set n ob) ρ := fun o ho => by
    by_cases hon : o = n
    · subst hon; rw [hn]; exact .inr ⟨hl, hs, hgn, hg, rfl⟩
    · rw [old o hon]; exact Compat.refl H ρ o ho
  have hown := (h.lt hgn hr).2
  have hfr : Fr c w' := ⟨h1.trans h.fr.os, h2.trans h.fr.tape, h3.trans h.fr.output, by rw [hsz]; exact h.fr.size, fun b hb hS =>
    (hoth b (fun e => by subst e; rcases hown.may with hm | hm; exact hS hm; omega)).trans (h.fr.block b hb hS)⟩
  refine Tr.one h n hk hA hc hfr (fun o ho _ => old o ho) (fun _ _ => rfl) (fun o ho hgo g' C' hr' => ?_) ?_ ?_
  · rw [old o ho] at hgo
    exact hoth g' (fun e => by subst e; exact ho (h.inj o n g' C' C hgo hgn hr' hr))
  · rw [hn]; exact hob.ok hk hA hc hr hown hb
  · intro o ho hgo g' C1 C2 hr1 _ hr2
    rw [old o ho] at hgo
    exact ho (h.inj o n g' C2 C1 hgo hgn hr2 hr1)

/-- A row is forgotten, and a new object takes its block. -/
theorem Tr.take (h : StOk c w H ρ) {m n g C : Nat} (hn : n < H.length) (hfree : ASt.obj H n = .free) {ob : AObj} {E : TypeId} {cur : Array Value} (hm : (ASt.obj H m).mut = true) (hr : ρ m = some (g, C))
    (hb : Blk w' g E cur) (hoth : ∀ b, b ≠ g → w'.heap[b]? = w.heap[b]?) (hsz : w'.heap.size = w.heap.size) (h1 : w'.os = w.os) (h2 : w'.tape = w.tape) (h3 : w'.output = w.output)
    (hob : Holds w (Avoid c.X H ρ) H ρ ob E C cur) : Tr c w H ρ w' ((H.set m .gone).set n ob) (updR ρ n (some (g, C))) := by
  have hgm : (ASt.obj H m).live = true := AObj.mut_live hm
  have hlt := obj_lt (AObj.live_ne_free hgm)
  have hmn : m ≠ n := by rintro rfl; rw [hfree] at hgm; simp [AObj.live] at hgm
  have hnew : ASt.obj ((H.set m .gone).set n ob) n = ob := obj_set_same (by simpa using hn) _
  have hold : ASt.obj ((H.set m .gone).set n ob) m = .gone := by rw [obj_set_other (Ne.symm hmn), obj_set_same hlt]
  have old : ∀ o, o ≠ n → o ≠ m → ASt.obj ((H.set m .gone).set n ob) o = ASt.obj H o := fun o h1 h2 => by rw [obj_set_other (Ne.symm h1), obj_set_other (Ne.symm h2)]
  have hlv : ∀ o, o ≠ n → (ASt.obj ((H.set m .gone).set n ob) o).live = true → o ≠ m := by
    rintro o _ hl rfl; rw [hold] at hl; simp [AObj.live] at hl
  have hav : Avoid c.X H ρ g := .inr ⟨m, C, hm, hr⟩
  have hk : Keeps (Avoid c.X H ρ) w w' := ⟨by omega, fun b _ hA => hoth b (fun e => hA (e ▸ hav))⟩
  have hA : ∀ b, b < w.heap.size → Avoid c.X ((H.set m .gone).set n ob) (updR ρ n (some (g, C))) b → Avoid c.X H ρ b := by
    intro b hb hA
    rcases hA with hA | ⟨o, C', hm', hr'⟩
    · exact .inl hA
    · by_cases ho : o = n
      · subst ho; rw [updR_same] at hr'; cases hr'; exact hav
      · rw [updR_other ho] at hr'
        rw [old o ho (hlv o ho (AObj.mut_live hm'))] at hm'; exact .inr ⟨o, C', hm', hr'⟩
  have hc : Compat H ρ ((H.set m .gone).set n ob) (updR ρ n (some (g, C))) := fun o ho => by
    have hon : o ≠ n := by rintro rfl; exact ho hfree
    rw [updR_other hon]
    by_cases hom : o = m
    · subst hom; exact .inl hold
    · rw [old o hon hom]; exact Compat.refl H ρ o ho
  have hown := (h.lt hgm hr).2
  have hfr : Fr c w' := ⟨h1.trans h.fr.os, h2.trans h.fr.tape, h3.trans h.fr.output, by rw [hsz]; exact h.fr.size, fun b hb hS =>
    (hoth b (fun e => by subst e; rcases hown.may with hm | hm; exact hS hm; omega)).trans (h.fr.block b hb hS)⟩
  refine Tr.one h n hk hA hc hfr (fun o ho hl => old o ho (hlv o ho hl)) (fun o ho => updR_other ho _) (fun o ho hl g' C' hr' => ?_) ?_ ?_
  · have hom := hlv o ho hl
    rw [old o ho hom] at hl
    exact hoth g' (fun e1 => by subst e1; exact hom (h.inj o m g' C' C hl hgm hr' hr))
  · rw [hnew]; exact hob.ok hk hA hc (updR_same _ _) hown hb
  · intro o ho hl g' C1 C2 hr1 _ hr2
    rw [updR_same] at hr1; cases hr1
    have hom := hlv o ho hl
    rw [old o ho hom] at hl
    exact hom (h.inj o m g C2 C hl hgm hr2 hr)

/-- Places that are free may be added. -/
theorem obj_pad (n : Nat) : ASt.obj (H ++ List.replicate n .free) o = ASt.obj H o := by
  simp only [ASt.obj, List.getD, List.getElem?_append, List.getElem?_replicate]
  split
  · rfl
  · rw [List.getElem?_eq_none (by omega)]
    split <;> rfl
theorem Tr.reheap (h : StOk c w H ρ) (hH : ∀ o, ASt.obj H' o = ASt.obj H o) : Tr c w H ρ w H' ρ := by
  have hc : Compat H ρ H' ρ := fun o ho => by rw [hH]; exact Compat.refl H ρ o ho
  have hA : ∀ b, b < w.heap.size → Avoid c.X H' ρ b → Avoid c.X H ρ b := by
    intro b _ hA
    rcases hA with hA | ⟨o, C, hm, hr⟩
    · exact .inl hA
    · exact .inr ⟨o, C, by rw [← hH]; exact hm, hr⟩
  refine ⟨Keeps.refl _ _, hA, hc, ⟨fun o => ?_, fun o o' g C C' h1 h2 => ?_, h.fr, h.old⟩⟩
  · rw [hH]; exact (h.obj o).mono (Keeps.refl _ _) hA hc rfl (fun _ _ _ _ => rfl)
  · rw [hH] at h1 h2; exact h.inj o o' g C C' h1 h2
theorem Tr.pad (h : StOk c w H ρ) (n : Nat) : Tr c w H ρ w (H ++ List.replicate n .free) ρ := Tr.reheap h fun _ => obj_pad n

end Go.AI
