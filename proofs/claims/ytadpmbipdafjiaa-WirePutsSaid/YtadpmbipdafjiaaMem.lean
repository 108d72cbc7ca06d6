/- What is known of the program's types, and how the model loads, stores, copies and makes. -/
import Derived.Test.YtadpmbipdafjiaaState
namespace Go.AI
open Go Go.RowKit

theorem toI_ofI0 (k : IntKind) : toI k (ofI k 0) = 0 := by cases k <;> rfl
theorem RepC.zero (w : World) (A : Nat → Prop) : ∀ s : Sch, RepC w A s s.dflt (zcells s)
  | .int k => ⟨by simp [zcells, Sch.dflt, toI_ofI0], by simp only [Sch.dflt, toI_ofI0]; cases k <;> decide⟩
  | .bool => rfl
  | .str => ⟨rfl, Nat.zero_le _⟩
  | .slc s => ⟨none, 0, rfl, Nat.le_refl _, Nat.zero_le _, .inl rfl⟩
  | .arr n s => by
    refine ⟨by simp [Sch.dflt], ?_⟩
    have key : ∀ m, RepL (RepC w A s) (List.replicate m s.dflt) (List.replicate m (zcells s)).flatten := by
      intro m
      induction m with
      | zero => rfl
      | succ m ih => exact ⟨zcells s, _, by simp [List.replicate_succ], RepC.zero w A s, ih⟩
    exact key n
  | .pair a b => ⟨_, _, rfl, RepC.zero w A a, RepC.zero w A b⟩
  | .unit => rfl

/-- What the program says of a type of plain data. -/
def SchOk (P : Program) (t : TypeId) (s : Sch) : Prop :=
  (∃ i z, P.info? t = some i ∧ i.zero = some z ∧ z.cells.toList = zcells s ∧ i.size = s.cells ∧ i.bytes ≤ 65536 ∧ 0 < i.bytes) ∧
  match s with
  | .int k => P.underlying t = some (.int k)
  | .bool => P.underlying t = some .bool
  | .str => P.underlying t = some .string
  | .slc s => ∃ e, P.underlying t = some (.slice e) ∧ SchOk P e s
  | .arr n s => ∃ e, P.underlying t = some (.array n e) ∧ SchOk P e s
  | .pair _ _ => ∃ fs, P.underlying t = some (.struct fs)
  | .unit => ∃ fs, P.underlying t = some (.struct fs)

def KindOk (d : TypeDesc) : TK → Prop
  | .other => (∀ n e, d ≠ .array n e) ∧ (∀ fs, d ≠ .struct fs) ∧ ∀ e, d ≠ .slice e
  | .func => ∃ ps rs v, d = .func ps rs v
  | .slice e => d = .slice e
  | .array n e => d = .array n e
  | .struct fs => ∃ gs : Array Field, d = .struct gs ∧ fs = gs.toList.map fun f => (f.offset, f.type)
  | .ptr e => d = .pointer e
  | .map k v => d = .map k v

structure TIOk (P : Program) (Γ : Gam) (t : TypeId) (ti : TI) : Prop where
  info : ∃ i d, P.info? t = some i ∧ P.underlying t = some d ∧ i.size = ti.cells ∧ KindOk d ti.kind
  one : ti.agg = false → ti.cells = 1
  sch : ∀ s, ti.sch = some s → SchOk P t s ∧ s.agg = ti.agg
  zero : ∀ fs z L, ti.kind = .struct fs → zeroStruct Γ fs = some (z, L) → ∃ i v, P.info? t = some i ∧ i.zero = some v ∧ v.cells.toList = L

def GamOk (P : Program) (Γ : Gam) : Prop := ∀ t ti, Γ.at_ t = some ti → TIOk P Γ t ti

section
variable {P : Program} {Γ : Gam} {t : TypeId} {ti : TI}
theorem run_sizeOf (h : TIOk P Γ t ti) (w : World) : (sizeOf t).run P w = .ok ti.cells w := by
  obtain ⟨i, d, hi, _, hs, _⟩ := h.info
  simp [sizeOf, typeInfo, hi, hs]
theorem run_isAgg (h : TIOk P Γ t ti) (w : World) : (isAgg t).run P w = .ok ti.agg w := by
  obtain ⟨i, d, _, hu, _, hk⟩ := h.info
  unfold isAgg
  rw [Sem.run_bind, run_underlying hu w]
  cases hkk : ti.kind with
  | other =>
    rw [hkk] at hk
    obtain ⟨h1, h2, _⟩ := hk
    simp only [Result.andThen_ok, TI.agg, hkk]
    cases d <;> first | rfl | exact absurd rfl (h1 _ _) | exact absurd rfl (h2 _)
  | func => rw [hkk] at hk; obtain ⟨_, _, _, rfl⟩ := hk; simp [TI.agg, hkk]
  | slice e => rw [hkk] at hk; obtain rfl := hk; simp [TI.agg, hkk]
  | array n e => rw [hkk] at hk; obtain rfl := hk; simp [TI.agg, hkk]
  | struct fs => rw [hkk] at hk; obtain ⟨gs, rfl, _⟩ := hk; simp [TI.agg, hkk]
  | ptr e => rw [hkk] at hk; obtain rfl := hk; simp [TI.agg, hkk]
  | map k v => rw [hkk] at hk; obtain rfl := hk; simp [TI.agg, hkk]

/-- The value of some cells. -/
def valOf (agg : Bool) (L : List Value) : Value := if agg then .agg L.toArray else L.getD 0 undef

theorem run_loadVar (h : TIOk P Γ t ti) {w : World} {ad : Addr} {L : List Value} (hl : L.length = ti.cells) (hc : CellsAt w ad L) :
    (loadVar t ad).run P w = .ok (valOf ti.agg L) w := by
  unfold loadVar
  rw [Sem.run_bind, run_isAgg h w]
  simp only [Result.andThen_ok]
  cases ha : ti.agg with
  | true =>
    have := run_loadCells_list (P := P) w ad L hc
    rw [hl] at this
    simp [run_sizeOf h, this, valOf]
  | false =>
    have h1 := h.one ha
    rw [h1] at hl
    match L, hl with
    | [v], _ =>
      have hv := hc 0 v rfl
      have e0 : ad.add 0 = ad := rfl
      rw [e0] at hv
      simp [hv, valOf]
end

theorem add_lit (g off j : Nat) : (⟨g, off, none⟩ : Addr).add j = ⟨g, off + j, none⟩ := by
  unfold Addr.add; split
  · simp_all
  · rfl
theorem CellsAt.of_blk {w : World} {g : Nat} {E : TypeId} {cur : Array Value} (h : Blk w g E cur) (off n : Nat) : CellsAt w ⟨g, off, none⟩ ((cur.toList.drop off).take n) := by
  intro j u hu
  rw [add_lit, h.cell]
  rw [List.getElem?_take] at hu
  split at hu
  · rw [List.getElem?_drop] at hu; simpa using hu
  · cases hu

/-- Cells put in place of others. -/
def splice (cur : Array Value) (k : Nat) (vs : List Value) : Array Value := (cur.toList.take k ++ vs ++ cur.toList.drop (k + vs.length)).toArray
theorem splice_size {cur : Array Value} {k : Nat} {vs : List Value} (h : k + vs.length ≤ cur.size) : (splice cur k vs).size = cur.size := by
  simp [splice]; omega

/-- Only one block has turned. -/
structure OnlyBlk (g : Nat) (w w' : World) : Prop where
  oth : ∀ b, b ≠ g → w'.heap[b]? = w.heap[b]?
  size : w'.heap.size = w.heap.size
  os : w'.os = w.os
  tape : w'.tape = w.tape
  output : w'.output = w.output
theorem OnlyBlk.refl (g : Nat) (w : World) : OnlyBlk g w w := ⟨fun _ _ => rfl, rfl, rfl, rfl, rfl⟩

theorem Blk.setCell {w : World} {g : Nat} {E : TypeId} {cur : Array Value} (h : Blk w g E cur) (i : Nat) (v : Value) : Blk (w.setCell ⟨g, i, none⟩ v) g E (cur.setIfInBounds i v) := by
  obtain ⟨fr, h, hf⟩ := h
  refine ⟨fr, ?_, by simpa using hf⟩
  simp [World.setCell, Array.getElem?_modify, h]
theorem OnlyBlk.setCell (w : World) (g i : Nat) (v : Value) : OnlyBlk g w (w.setCell ⟨g, i, none⟩ v) :=
  ⟨fun b hb => by simp only [World.setCell, Array.getElem?_modify]; rw [if_neg (Ne.symm hb)], by simp [World.setCell], rfl, rfl, rfl⟩
theorem OnlyBlk.trans {g : Nat} {w w' w'' : World} (h : OnlyBlk g w w') (k : OnlyBlk g w' w'') : OnlyBlk g w w'' :=
  ⟨fun b hb => (k.oth b hb).trans (h.oth b hb), k.size.trans h.size, k.os.trans h.os, k.tape.trans h.tape, k.output.trans h.output⟩

theorem splice_cons {cur : Array Value} {k : Nat} {v : Value} {vs : List Value} (hlt : k < cur.size) (hl : k + 1 + vs.length ≤ cur.size) : splice (cur.setIfInBounds k v) (k + 1) vs = splice cur k (v :: vs) := by
  simp only [splice]
  congr 1
  apply List.ext_getElem?
  intro j
  simp only [Array.toList_setIfInBounds, List.append_assoc, List.getElem?_append, List.length_take, List.length_set, Array.length_toList, List.getElem?_take, List.getElem?_set, List.getElem?_drop, List.length_cons]
  by_cases hj : j < k
  · simp only [show j < min (k + 1) cur.size from by omega, show j < min k cur.size from by omega, if_true, show j < k + 1 from by omega, hj, show ¬ k = j from by omega, if_false]
  · by_cases hj' : j = k
    · subst hj'
      simp [show j < min (j + 1) cur.size from by omega, show ¬ j < min j cur.size from by omega, show j - min j cur.size = 0 from by omega, hlt]
    · have e1 : j - min k cur.size = (j - min (k + 1) cur.size) + 1 := by omega
      simp only [show ¬ j < min (k + 1) cur.size from by omega, show ¬ j < min k cur.size from by omega, if_false, e1, Nat.add_lt_add_iff_right, List.getElem?_cons_succ]
      split
      · rfl
      · rw [if_neg (by omega)]
        congr 1; omega
theorem fold_splice (off : Nat) : ∀ (L : List Value) (k : Nat) (cur : Array Value), off + k + L.length ≤ cur.size → (L.zipIdx k).foldl (fun cs x => cs.setIfInBounds (off + x.2) x.1) cur = splice cur (off + k) L
  | [], k, cur, _ => by simp [splice]
  | v :: L, k, cur, h => by
    simp only [List.length_cons] at h
    rw [List.zipIdx_cons, List.foldl_cons, fold_splice off L (k + 1) _ (by rw [Array.size_setIfInBounds]; omega)]
    exact splice_cons (by omega) (by omega)

theorem run_storeCells (P : Program) {g off : Nat} {E : TypeId} : ∀ (vs : List Value) (i : Nat) (cur : Array Value) (w : World), Blk w g E cur → off + i + vs.length ≤ cur.size → (∀ u ∈ vs, u.oneCell' = true) →
    ∃ w', (storeCells ⟨g, off, none⟩ vs i).run P w = .ok () w' ∧ Blk w' g E (splice cur (off + i) vs) ∧ OnlyBlk g w w'
  | [], i, cur, w, h, _, _ => ⟨w, by simp [storeCells], by simpa [splice] using h, OnlyBlk.refl g w⟩
  | v :: vs, i, cur, w, h, hl, h1 => by
    simp only [List.length_cons] at hl
    have hlt : off + i < cur.size := by omega
    have hc : w.cell? ((⟨g, off, none⟩ : Addr).add i) = some cur[off + i] := by rw [add_lit, h.cell]; exact Array.getElem?_eq_getElem hlt
    have hf : w.frozen? ((⟨g, off, none⟩ : Addr).add i) = false := by rw [add_lit]; exact h.frozen hlt
    obtain ⟨w', hr, hb, ho⟩ := run_storeCells P (off := off) vs (i + 1) (cur.setIfInBounds (off + i) v) (w.setCell ⟨g, off + i, none⟩ v) (h.setCell (off + i) v) (by rw [Array.size_setIfInBounds]; omega) (fun u hu => h1 u (List.mem_cons_of_mem _ hu))
    refine ⟨w', ?_, ?_, (OnlyBlk.setCell w g (off + i) v).trans ho⟩
    · rw [storeCells]
      simp only [Sem.run_bind, run_store P w _ v .plain (h1 v List.mem_cons_self), hc, hf]
      simp only [Bool.false_eq_true, if_false, Result.andThen_ok, add_lit]
      exact hr
    · have e : splice (cur.setIfInBounds (off + i) v) (off + (i + 1)) vs = splice cur (off + i) (v :: vs) := splice_cons hlt (by omega)
      rw [← e]; exact hb

theorem run_storeVar {P : Program} {Γ : Gam} {t : TypeId} {ti : TI} (h : TIOk P Γ t ti) {w : World} {g off : Nat} {E : TypeId} {cur : Array Value} {val : Value} (hb : Blk w g E cur)
    (hl : val.cells.toList.length = ti.cells) (hfit : off + ti.cells ≤ cur.size) (h1 : ∀ u ∈ val.cells.toList, u.oneCell' = true) :
    ∃ w', (storeVar t ⟨g, off, none⟩ val).run P w = .ok () w' ∧ Blk w' g E (splice cur off val.cells.toList) ∧ OnlyBlk g w w' := by
  obtain ⟨w', hr, hb', ho⟩ := run_storeCells P (off := off) val.cells.toList 0 cur w hb (by omega) h1
  refine ⟨w', ?_, hb', ho⟩
  unfold storeVar
  have e : val.cells.size = ti.cells := by simpa using hl
  simp [run_sizeOf h, e, hr]

end Go.AI
