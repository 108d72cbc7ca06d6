/- How the abstract machine's state stands to the model's. -/
import Derived.Test.YtadpmbipdafjiaaRun
namespace Go.AI
open Go Go.RowKit

abbrev Rho := Nat → Option (Nat × Nat)

def AObj.mut : AObj → Bool
  | .row _ _ _ fz => !fz
  | .box _ => true
  | _ => false
def AObj.lay : AObj → Lay
  | .row _ s xs _ => .arr xs.length s.lay
  | .box v => v.lay
  | _ => .unit
def AObj.shape (ob : AObj) : Option (Sch × Nat) := ob.elems.map fun e => (e.s, e.xs.length)

/-- The blocks that plain data may not lie in. -/
def Avoid (X : Nat → Prop) (H : List AObj) (ρ : Rho) (b : Nat) : Prop := X b ∨ ∃ o C, (ASt.obj H o).mut = true ∧ ρ o = some (b, C)

/-- A slice of an object's elements. -/
def SlR (H : List AObj) (ρ : Rho) (o off : Nat) (len : Option Nat) (cs : List Value) : Prop :=
  ASt.obj H o ≠ .free ∧ match (ASt.obj H o).elems with
  | none => ∃ v, cs = [v] ∧ v.oneCell' = true
  | some e => ∃ a cap, cs = [.slice a (len.getD e.xs.length) cap] ∧ off + len.getD e.xs.length ≤ e.xs.length ∧ len.getD e.xs.length ≤ cap ∧ cap ≤ maxLen ∧
      match ρ o with
      | none => cap = 0
      | some gC => off + cap ≤ gC.2 ∧ (cap = 0 ∨ a = some ⟨gC.1, off * e.s.cells, none⟩)

/-- A pointer into an object. -/
def PtrR (ob : AObj) (r : Option (Nat × Nat)) (p : List Nat) (cs : List Value) : Prop :=
  (ob = .gone ∧ ∃ v, cs = [v] ∧ v.oneCell' = true) ∨
  (ob.live = true ∧ ∃ g C off l, ob.lay.at_ p = some (off, l) ∧ r = some (g, C) ∧ cs = [.pointer (some ⟨g, off, none⟩)])

/-- A single value, by what is known of its cells and of the values behind it. -/
def RV1 (R : Bool → List Value → Prop) (v : AV) (val : Value) : Prop :=
  match v with
  | .dead => True
  | .tup _ => False
  | v => if v.agg then ∃ cs, val = .agg cs.toArray ∧ R true cs else R true [val]

/-- true: the cells of a value; false: a chain of values. -/
def RX (w : World) (A : Nat → Prop) (H : List AObj) (ρ : Rho) : AV → Bool → List Value → Prop
  | .dat s x, true, cs => RepC w A s x cs
  | .slx s xs, true, cs => ∃ a, cs = [.slice a xs.length xs.length] ∧ RepC w A (.slc s) xs cs
  | .nils, true, cs => cs = [.slice none 0 0]
  | .emp, true, cs => ∃ a, cs = [.slice a 0 0]
  | .row o, true, cs => SlR H ρ o 0 none cs
  | .sl o off len, true, cs => SlR H ρ o off (some len) cs
  | .vptr s x, true, cs => ∃ ad L, cs = [.pointer (some ad)] ∧ ad.block < w.heap.size ∧ ¬ A ad.block ∧ RepC w A s x L ∧ CellsAt w ad L
  | .ptr o p, true, cs => PtrR (ASt.obj H o) (ρ o) p cs
  | .pr a b, true, cs => ∃ c r, cs = c ++ r ∧ RX w A H ρ a true c ∧ RX w A H ρ b true r
  | .un, true, cs => cs = []
  | .fn f caps, true, cs => ∃ vs : List Value, cs = [.func (.func f) #[] vs.toArray] ∧ RX w A H ρ caps false vs
  | .nilfn, true, cs => cs = [.nilFunc]
  | .pr a b, false, vs => ∃ v r, vs = v :: r ∧ RV1 (RX w A H ρ a) a v ∧ RX w A H ρ b false r
  | .un, false, vs => vs = []
  | _, _, _ => False

/-- A slot's value. -/
def RV (w : World) (A : Nat → Prop) (H : List AObj) (ρ : Rho) (v : AV) (val : Value) : Prop :=
  match v with
  | .tup a => ∃ vs : List Value, val = .tuple vs.toArray ∧ RX w A H ρ a false vs
  | v => RV1 (RX w A H ρ v) v val

theorem RX.length {w : World} {A : Nat → Prop} {H : List AObj} {ρ : Rho} : ∀ (v : AV) {cs : List Value}, RX w A H ρ v true cs → cs.length = v.cells
  | .dat s x, cs, h => RepC.length s h
  | .slx s xs, cs, h => by obtain ⟨a, rfl, _⟩ := h; rfl
  | .nils, cs, h => by simp only [RX] at h; subst h; rfl
  | .emp, cs, h => by obtain ⟨a, rfl⟩ := h; rfl
  | .row o, cs, h => by
    obtain ⟨_, h⟩ := h
    cases he : (ASt.obj H o).elems with
    | none => simp only [he] at h; obtain ⟨v, rfl, _⟩ := h; rfl
    | some e => simp only [he] at h; obtain ⟨a, cap, rfl, _⟩ := h; rfl
  | .sl o off len, cs, h => by
    obtain ⟨_, h⟩ := h
    cases he : (ASt.obj H o).elems with
    | none => simp only [he] at h; obtain ⟨v, rfl, _⟩ := h; rfl
    | some e => simp only [he] at h; obtain ⟨a, cap, rfl, _⟩ := h; rfl
  | .vptr s x, cs, h => by obtain ⟨ad, L, rfl, _⟩ := h; rfl
  | .ptr o p, cs, h => by
    rcases h with ⟨_, v, rfl, _⟩ | ⟨_, g, C, off, l, _, _, rfl⟩ <;> rfl
  | .pr a b, cs, h => by
    obtain ⟨c, r, rfl, h1, h2⟩ := h
    rw [List.length_append, RX.length a h1, RX.length b h2]; rfl
  | .un, cs, h => by simp only [RX] at h; subst h; rfl
  | .fn f c, cs, h => by obtain ⟨vs, rfl, _⟩ := h; rfl
  | .nilfn, cs, h => by simp only [RX] at h; subst h; rfl
  | .tup a, cs, h => by simp [RX] at h
  | .dead, cs, h => by simp [RX] at h

theorem RX.oneCell {w : World} {A : Nat → Prop} {H : List AObj} {ρ : Rho} : ∀ (v : AV) {cs : List Value}, RX w A H ρ v true cs → ∀ u ∈ cs, u.oneCell' = true
  | .dat s x, cs, h => RepC.oneCell s h
  | .slx s xs, cs, h => by obtain ⟨a, rfl, _⟩ := h; simp [Value.oneCell']
  | .nils, cs, h => by simp only [RX] at h; subst h; simp [Value.oneCell']
  | .emp, cs, h => by obtain ⟨a, rfl⟩ := h; simp [Value.oneCell']
  | .row o, cs, h => by
    obtain ⟨_, h⟩ := h
    cases he : (ASt.obj H o).elems with
    | none => simp only [he] at h; obtain ⟨v, rfl, hv⟩ := h; simpa using hv
    | some e => simp only [he] at h; obtain ⟨a, cap, rfl, _⟩ := h; simp [Value.oneCell']
  | .sl o off len, cs, h => by
    obtain ⟨_, h⟩ := h
    cases he : (ASt.obj H o).elems with
    | none => simp only [he] at h; obtain ⟨v, rfl, hv⟩ := h; simpa using hv
    | some e => simp only [he] at h; obtain ⟨a, cap, rfl, _⟩ := h; simp [Value.oneCell']
  | .vptr s x, cs, h => by obtain ⟨ad, L, rfl, _⟩ := h; simp [Value.oneCell']
  | .ptr o p, cs, h => by
    rcases h with ⟨_, v, rfl, hv⟩ | ⟨_, g, C, off, l, _, _, rfl⟩
    · simpa using hv
    · simp [Value.oneCell']
  | .pr a b, cs, h => by
    obtain ⟨c, r, rfl, h1, h2⟩ := h
    intro u hu
    rcases List.mem_append.1 hu with hu | hu
    · exact RX.oneCell a h1 u hu
    · exact RX.oneCell b h2 u hu
  | .un, cs, h => by simp only [RX] at h; subst h; simp
  | .fn f c, cs, h => by obtain ⟨vs, rfl, _⟩ := h; simp [Value.oneCell']
  | .nilfn, cs, h => by simp only [RX] at h; subst h; simp [Value.oneCell']
  | .tup a, cs, h => by simp [RX] at h
  | .dead, cs, h => by simp [RX] at h

/-- An object is the same in its make, or it is gone. -/
structure SameMake (ob ob' : AObj) (r r' : Option (Nat × Nat)) : Prop where
  lay : ob'.lay = ob.lay
  shape : ob'.shape = ob.shape
  there : ob.live = true
  there' : ob'.live = true
  place : r' = r
/-- What was in use is in use, or gone. -/
def Compat (H : List AObj) (ρ : Rho) (H' : List AObj) (ρ' : Rho) : Prop :=
  ∀ o, ASt.obj H o ≠ .free → ASt.obj H' o = .gone ∨ SameMake (ASt.obj H o) (ASt.obj H' o) (ρ o) (ρ' o)

theorem AObj.cases3 (ob : AObj) : ob = .free ∨ ob = .gone ∨ ob.live = true := by cases ob <;> simp [AObj.live]
theorem AObj.live_ne_free {ob : AObj} (h : ob.live = true) : ob ≠ .free := by rintro rfl; simp [AObj.live] at h
theorem AObj.live_ne_gone {ob : AObj} (h : ob.live = true) : ob ≠ .gone := by rintro rfl; simp [AObj.live] at h
theorem AObj.mut_live {ob : AObj} (h : ob.mut = true) : ob.live = true := by cases ob <;> simp_all [AObj.mut, AObj.live]
theorem Compat.refl (H : List AObj) (ρ : Rho) : Compat H ρ H ρ := fun o ho => by
  rcases (ASt.obj H o).cases3 with h | h | h
  · exact absurd h ho
  · exact .inl h
  · exact .inr ⟨rfl, rfl, h, h, rfl⟩
theorem Compat.trans {H H' H'' : List AObj} {ρ ρ' ρ'' : Rho} (h : Compat H ρ H' ρ') (k : Compat H' ρ' H'' ρ'') : Compat H ρ H'' ρ'' := fun o ho => by
  rcases h o ho with h1 | h1
  · rcases k o (by rw [h1]; simp) with k1 | k1
    · exact .inl k1
    · exact absurd h1 (AObj.live_ne_gone k1.there)
  · rcases k o (AObj.live_ne_free h1.there') with k1 | k1
    · exact .inl k1
    · exact .inr ⟨k1.lay.trans h1.lay, k1.shape.trans h1.shape, h1.there, k1.there', k1.place.trans h1.place⟩

theorem SlR.mono {H H' : List AObj} {ρ ρ' : Rho} (hc : Compat H ρ H' ρ') {o off : Nat} {len : Option Nat} {cs : List Value} (h : SlR H ρ o off len cs) : SlR H' ρ' o off len cs := by
  obtain ⟨ho, h⟩ := h
  rcases hc o ho with hg | hs
  · refine ⟨by rw [hg]; simp, ?_⟩
    rw [hg]
    show ∃ v, cs = [v] ∧ v.oneCell' = true
    cases he : (ASt.obj H o).elems with
    | none => simp only [he] at h; exact h
    | some e => simp only [he] at h; obtain ⟨a, cap, rfl, _⟩ := h; exact ⟨_, rfl, rfl⟩
  · refine ⟨AObj.live_ne_free hs.there', ?_⟩
    have hsh := hs.shape
    simp only [AObj.shape] at hsh
    cases he : (ASt.obj H o).elems with
    | none =>
      rw [he] at hsh
      have : (ASt.obj H' o).elems = none := by simpa using hsh
      simp only [he] at h
      simp only [this]; exact h
    | some e =>
      rw [he] at hsh
      cases he' : (ASt.obj H' o).elems with
      | none => rw [he'] at hsh; simp at hsh
      | some e' =>
        rw [he'] at hsh
        simp only [Option.map_some, Option.some.injEq, Prod.mk.injEq] at hsh
        obtain ⟨h1, h2⟩ := hsh
        simp only [he] at h
        simp only [hs.place, h1, h2]
        exact h

theorem RX.mono {w w' : World} {A A' : Nat → Prop} {H H' : List AObj} {ρ ρ' : Rho} (hk : Keeps A w w') (hA : ∀ b, b < w.heap.size → A' b → A b) (hc : Compat H ρ H' ρ') :
    ∀ (v : AV) (m : Bool) {cs : List Value}, RX w A H ρ v m cs → RX w' A' H' ρ' v m cs
  | .dat s x, true, cs, h => RepC.keeps hk hA s h
  | .slx s xs, true, cs, h => by
    obtain ⟨a, e, h⟩ := h
    exact ⟨a, e, RepC.keeps hk hA (.slc s) h⟩
  | .nils, true, cs, h => h
  | .emp, true, cs, h => h
  | .row o, true, cs, h => SlR.mono hc h
  | .sl o off len, true, cs, h => SlR.mono hc h
  | .vptr s x, true, cs, h => by
    obtain ⟨ad, L, e, hb, hn, hr, hcl⟩ := h
    exact ⟨ad, L, e, Nat.lt_of_lt_of_le hb hk.size, fun h => hn (hA _ hb h), RepC.keeps hk hA s hr, hcl.keeps hk hb hn⟩
  | .ptr o p, true, cs, h => by
    have ho : ASt.obj H o ≠ .free := by
      rcases h with ⟨h, _⟩ | ⟨h, _⟩
      · rw [h]; simp
      · exact AObj.live_ne_free h
    rcases hc o ho with hg | hs
    · refine .inl ⟨hg, ?_⟩
      rcases h with ⟨_, h⟩ | ⟨_, g, C, off, l, _, _, rfl⟩
      · exact h
      · exact ⟨_, rfl, rfl⟩
    · rcases h with ⟨hgone, _⟩ | ⟨_, g, C, off, l, hl, hr, hcs⟩
      · exact absurd hgone (AObj.live_ne_gone hs.there)
      · exact .inr ⟨hs.there', g, C, off, l, by rw [hs.lay]; exact hl, by rw [hs.place]; exact hr, hcs⟩
  | .pr a b, true, cs, h => by
    obtain ⟨c, r, e, h1, h2⟩ := h
    exact ⟨c, r, e, RX.mono hk hA hc a true h1, RX.mono hk hA hc b true h2⟩
  | .un, true, cs, h => h
  | .fn f c, true, cs, h => by
    obtain ⟨vs, e, h⟩ := h
    exact ⟨vs, e, RX.mono hk hA hc c false h⟩
  | .nilfn, true, cs, h => h
  | .tup a, true, cs, h => h.elim
  | .dead, true, cs, h => h.elim
  | .pr a b, false, cs, h => by
    obtain ⟨v, r, e, h1, h2⟩ := h
    refine ⟨v, r, e, ?_, RX.mono hk hA hc b false h2⟩
    unfold RV1 at h1 ⊢
    split at h1
    · trivial
    · exact h1.elim
    · split at h1
      · rename_i hag
        obtain ⟨cs, e1, h1⟩ := h1
        rw [if_pos hag]
        exact ⟨cs, e1, RX.mono hk hA hc a true h1⟩
      · rename_i hag
        rw [if_neg hag]
        exact RX.mono hk hA hc a true h1
  | .un, false, cs, h => h
  | .dat _ _, false, cs, h => h.elim
  | .slx _ _, false, cs, h => h.elim
  | .nils, false, cs, h => h.elim
  | .emp, false, cs, h => h.elim
  | .row _, false, cs, h => h.elim
  | .sl _ _ _, false, cs, h => h.elim
  | .vptr _ _, false, cs, h => h.elim
  | .ptr _ _, false, cs, h => h.elim
  | .fn _ _, false, cs, h => h.elim
  | .nilfn, false, cs, h => h.elim
  | .tup _, false, cs, h => h.elim
  | .dead, false, cs, h => h.elim

theorem RV1.mono {R R' : Bool → List Value → Prop} (h : ∀ cs, R true cs → R' true cs) {v : AV} {val : Value} (h1 : RV1 R v val) : RV1 R' v val := by
  unfold RV1 at h1 ⊢
  split at h1
  · trivial
  · exact h1.elim
  · split at h1
    · rename_i hag
      obtain ⟨cs, e1, h1⟩ := h1
      rw [if_pos hag]
      exact ⟨cs, e1, h _ h1⟩
    · rename_i hag
      rw [if_neg hag]
      exact h _ h1

theorem RV.mono {w w' : World} {A A' : Nat → Prop} {H H' : List AObj} {ρ ρ' : Rho} (hk : Keeps A w w') (hA : ∀ b, b < w.heap.size → A' b → A b) (hc : Compat H ρ H' ρ')
    {v : AV} {val : Value} (h : RV w A H ρ v val) : RV w' A' H' ρ' v val := by
  unfold RV at h ⊢
  split at h
  · obtain ⟨vs, e, h⟩ := h
    exact ⟨vs, e, RX.mono hk hA hc _ false h⟩
  · exact RV1.mono (fun _ => RX.mono hk hA hc _ true) h

/-- A value that stands in memory, by its cells. -/
theorem RV.cells {w : World} {A : Nat → Prop} {H : List AObj} {ρ : Rho} {v : AV} {val : Value} (hs : v.stands = true) (h : RV w A H ρ v val) :
    RX w A H ρ v true val.cells.toList := by
  unfold RV at h
  split at h
  · simp [AV.stands] at hs
  · unfold RV1 at h
    split at h
    · simp [AV.stands] at hs
    · simp [AV.stands] at hs
    · split at h
      · obtain ⟨cs, rfl, h⟩ := h
        simpa [Value.cells] using h
      · have ho := RX.oneCell _ h val (by simp)
        have : val.cells = #[val] := by cases val <;> first | rfl | simp [Value.oneCell'] at ho
        rw [this]; exact h

/-- A value of one cell. -/
theorem RV.one {w : World} {A : Nat → Prop} {H : List AObj} {ρ : Rho} {v : AV} {val : Value} (ha : v.agg = false) (h : RX w A H ρ v true [val]) : RV w A H ρ v val := by
  unfold RV
  split
  · exact h.elim
  · unfold RV1
    split
    · trivial
    · exact h.elim
    · rw [if_neg (by simp [ha])]; exact h
theorem RV.agg_ {w : World} {A : Nat → Prop} {H : List AObj} {ρ : Rho} {v : AV} {cs : List Value} (ha : v.agg = true) (h : RX w A H ρ v true cs) : RV w A H ρ v (.agg cs.toArray) := by
  unfold RV
  split
  · simp [AV.agg] at ha
  · unfold RV1
    split
    · trivial
    · simp [AV.agg] at ha
    · rw [if_pos ha]; exact ⟨cs, rfl, h⟩
theorem RV.to_one {w : World} {A : Nat → Prop} {H : List AObj} {ρ : Rho} {v : AV} {val : Value} (hs : v.stands = true) (ha : v.agg = false) (h : RV w A H ρ v val) : RX w A H ρ v true [val] := by
  unfold RV at h
  split at h
  · simp [AV.stands] at hs
  · unfold RV1 at h
    split at h
    · simp [AV.stands] at hs
    · simp [AV.stands] at hs
    · rw [if_neg (by simp [ha])] at h; exact h

end Go.AI
