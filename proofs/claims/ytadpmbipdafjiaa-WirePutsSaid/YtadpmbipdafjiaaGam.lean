/- What a book says of the program's types, checked by computing. -/
import Derived.Test.YtadpmbipdafjiaaDrawnOk
namespace Go.AI
open Go Go.RowKit

def zB : Value → Value → Bool
  | .int j m, .int k n => j == k && m == n
  | .bool a, .bool b => a == b
  | .string s, .string t => s.size == 0 && t.size == 0
  | .slice none 0 0, .slice none 0 0 => true
  | .nilFunc, .nilFunc => true
  | _, _ => false
def zlB : List Value → List Value → Bool
  | [], [] => true
  | a :: l, b :: m => zB a b && zlB l m
  | _, _ => false
theorem zB_ok {a b : Value} (h : zB a b = true) : a = b := by
  unfold zB at h
  split at h
  · simp only [Bool.and_eq_true, beq_iff_eq] at h; rw [h.1, h.2]
  · simp only [beq_iff_eq] at h; rw [h]
  · rename_i s t
    simp only [Bool.and_eq_true, beq_iff_eq] at h
    have key : ∀ s : ByteArray, s.size = 0 → s = ⟨#[]⟩ := fun s hs => by
      obtain ⟨d⟩ := s
      have : d = #[] := Array.eq_empty_of_size_eq_zero hs
      rw [this]
    rw [key s h.1, key t h.2]
  · rfl
  · rfl
  · cases h
theorem zlB_ok : ∀ {l m : List Value}, zlB l m = true → l = m
  | [], [], _ => rfl
  | [], _ :: _, h => by cases h
  | _ :: _, [], h => by cases h
  | a :: l, b :: m, h => by
    simp only [zlB, Bool.and_eq_true] at h
    rw [zB_ok h.1, zlB_ok h.2]

def infoB (P : Program) (t : TypeId) (s : Sch) : Bool :=
  match P.info? t with
  | some i => match i.zero with
    | some z => zlB z.cells.toList (zcells s) && i.size == s.cells && decide (i.bytes ≤ 65536) && decide (0 < i.bytes)
    | none => false
  | none => false
theorem infoB_ok {P : Program} {t : TypeId} {s : Sch} (h : infoB P t s = true) : ∃ i z, P.info? t = some i ∧ i.zero = some z ∧ z.cells.toList = zcells s ∧ i.size = s.cells ∧ i.bytes ≤ 65536 ∧ 0 < i.bytes := by
  unfold infoB at h
  split at h
  · rename_i i hi
    split at h
    · rename_i z hz
      simp only [Bool.and_eq_true, beq_iff_eq, decide_eq_true_eq] at h
      exact ⟨i, z, hi, hz, zlB_ok h.1.1.1, h.1.1.2, h.1.2, h.2⟩
    · cases h
  · cases h

def isStruct : Option TypeDesc → Bool
  | some (.struct _) => true
  | _ => false
theorem isStruct_ok {d : Option TypeDesc} (h : isStruct d = true) : ∃ fs, d = some (.struct fs) := by
  unfold isStruct at h
  split at h
  · exact ⟨_, rfl⟩
  · cases h
def schB (P : Program) : Sch → TypeId → Bool
  | .int k, t => infoB P t (.int k) && match P.underlying t with | some (.int j) => j == k | _ => false
  | .bool, t => infoB P t .bool && match P.underlying t with | some .bool => true | _ => false
  | .str, t => infoB P t .str && match P.underlying t with | some .string => true | _ => false
  | .slc s, t => infoB P t (.slc s) && match P.underlying t with | some (.slice e) => schB P s e | _ => false
  | .arr n s, t => infoB P t (.arr n s) && match P.underlying t with | some (.array m e) => m == n && schB P s e | _ => false
  | .pair a b, t => infoB P t (.pair a b) && isStruct (P.underlying t)
  | .unit, t => infoB P t .unit && isStruct (P.underlying t)
theorem schB_ok {P : Program} : ∀ (s : Sch) {t : TypeId}, schB P s t = true → SchOk P t s
  | .int k, t, h => by
    simp only [schB, Bool.and_eq_true] at h
    refine ⟨infoB_ok h.1, ?_⟩
    have h2 := h.2
    split at h2
    · rename_i j e; rw [e]; simp only [beq_iff_eq] at h2; rw [h2]
    · cases h2
  | .bool, t, h => by
    simp only [schB, Bool.and_eq_true] at h
    refine ⟨infoB_ok h.1, ?_⟩
    have h2 := h.2
    split at h2
    · assumption
    · cases h2
  | .str, t, h => by
    simp only [schB, Bool.and_eq_true] at h
    refine ⟨infoB_ok h.1, ?_⟩
    have h2 := h.2
    split at h2
    · assumption
    · cases h2
  | .slc s, t, h => by
    simp only [schB, Bool.and_eq_true] at h
    refine ⟨infoB_ok h.1, ?_⟩
    have h2 := h.2
    split at h2
    · rename_i e he; exact ⟨e, he, schB_ok s h2⟩
    · cases h2
  | .arr n s, t, h => by
    simp only [schB, Bool.and_eq_true] at h
    refine ⟨infoB_ok h.1, ?_⟩
    have h2 := h.2
    split at h2
    · rename_i m e he
      simp only [Bool.and_eq_true, beq_iff_eq] at h2
      exact ⟨e, by rw [he, h2.1], schB_ok s h2.2⟩
    · cases h2
  | .pair a b, t, h => by
    simp only [schB, Bool.and_eq_true] at h
    exact ⟨infoB_ok h.1, isStruct_ok h.2⟩
  | .unit, t, h => by
    simp only [schB, Bool.and_eq_true] at h
    exact ⟨infoB_ok h.1, isStruct_ok h.2⟩

def kindB (d : TypeDesc) : TK → Bool
  | .other => match d with | .array _ _ => false | .struct _ => false | .slice _ => false | _ => true
  | .func => match d with | .func _ _ _ => true | _ => false
  | .slice e => match d with | .slice e' => e' == e | _ => false
  | .array n e => match d with | .array m e' => m == n && e' == e | _ => false
  | .struct fs => match d with | .struct gs => decide (fs = gs.toList.map fun f => (f.offset, f.type)) | _ => false
  | .ptr e => match d with | .pointer e' => e' == e | _ => false
  | .map k v => match d with | .map k' v' => k' == k && v' == v | _ => false
theorem kindB_ok {d : TypeDesc} {k : TK} (h : kindB d k = true) : KindOk d k := by
  cases k <;> cases d <;> simp only [kindB, Bool.false_eq_true, Bool.and_eq_true, beq_iff_eq, decide_eq_true_eq] at h <;> simp_all [KindOk]

def tiB (P : Program) (Γ : Gam) (t : TypeId) (ti : TI) : Bool :=
  match P.info? t, P.underlying t with
  | some i, some d => i.size == ti.cells && kindB d ti.kind && (ti.agg || ti.cells == 1) &&
      (match ti.sch with
        | none => true
        | some s => schB P s t && s.agg == ti.agg) &&
      (match ti.kind with
        | .struct fs => match zeroStruct Γ fs with
          | some (_, L) => match i.zero with
            | some v => zlB v.cells.toList L
            | none => false
          | none => true
        | _ => true)
  | _, _ => false
theorem tiB_ok {P : Program} {Γ : Gam} {t : TypeId} {ti : TI} (h : tiB P Γ t ti = true) : TIOk P Γ t ti := by
  unfold tiB at h
  split at h
  · rename_i i d hi hd
    simp only [Bool.and_eq_true, beq_iff_eq, Bool.or_eq_true] at h
    obtain ⟨⟨⟨⟨h1, h2⟩, h3⟩, h4⟩, h5⟩ := h
    refine ⟨⟨i, d, hi, hd, h1, kindB_ok h2⟩, fun ha => ?_, fun s hs => ?_, fun fs z L hk hz => ?_⟩
    · rcases h3 with h3 | h3
      · rw [ha] at h3; cases h3
      · exact h3
    · rw [hs] at h4
      simp only [Bool.and_eq_true, beq_iff_eq] at h4
      exact ⟨schB_ok s h4.1, h4.2⟩
    · rw [hk] at h5
      simp only [hz] at h5
      split at h5
      · rename_i v hv
        exact ⟨i, v, hi, hv, zlB_ok h5⟩
      · cases h5
  · cases h

def gamB (P : Program) (Γ : Gam) : Bool := (List.range Γ.length).all fun t => match Γ.at_ t with
  | none => true
  | some ti => tiB P Γ t ti
theorem gamB_ok {P : Program} {Γ : Gam} (h : gamB P Γ = true) : GamOk P Γ := by
  intro t ti ht
  have hlt : t < Γ.length := by
    rcases Nat.lt_or_ge t Γ.length with h' | h'
    · exact h'
    · simp [Gam.at_, List.getElem?_eq_none h'] at ht
  have := List.all_eq_true.1 h t (List.mem_range.2 hlt)
  rw [ht] at this
  exact tiB_ok this

def noNumB (P : Program) : Bool := P.funcs.toList.all fun fn => fn.body.isNone || !(fn.name == "runtime.NumGoroutine")
theorem noNumB_ok {P : Program} (h : noNumB P = true) : NoNum P := by
  intro f fn hf hb
  have hm : fn ∈ P.funcs.toList := by
    rw [← Array.getElem?_toList] at hf
    exact List.mem_of_getElem? hf
  have := List.all_eq_true.1 h fn hm
  simpa [hb] using this
end Go.AI
