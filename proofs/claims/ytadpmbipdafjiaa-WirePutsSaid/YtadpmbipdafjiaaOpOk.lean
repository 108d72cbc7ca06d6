/- Slices: what their values are. -/
import Derived.Test.YtadpmbipdafjiaaScal
namespace Go.AI
open Go Go.RowKit

section
variable {P : Program} {Γ : Gam} {c : Ctx} {w : World} {H : List AObj} {ρ : Rho}

/-- The elements of an object in memory. -/
theorem StOk.elems (h : StOk c w H ρ) {o : Nat} {e : Elems} (he : (ASt.obj H o).elems = some e) :
    (ρ o = none ∧ e.xs = []) ∨ ∃ g C E cur, ρ o = some (g, C) ∧ Own c g ∧ Blk w g E cur ∧ e.xs.length ≤ C ∧ C ≤ maxLen ∧ cur.size = C * e.s.cells ∧
      RepL (RepC w (Avoid c.X H ρ) e.s) e.xs (cur.toList.take (e.xs.length * e.s.cells)) := by
  have ho := h.obj o
  cases hob : ASt.obj H o with
  | gone => rw [hob] at he; simp [AObj.elems] at he
  | free => rw [hob] at he; simp [AObj.elems] at he
  | row E s xs fz =>
    rw [hob] at he ho
    simp only [AObj.elems, Option.some.injEq] at he
    subst he
    rcases ho with ⟨h1, h2⟩ | ⟨g, C, h1, h2, cur, h3, h4, h5, h6, h7⟩
    · exact .inl ⟨h1, h2⟩
    · exact .inr ⟨g, C, E, cur, h1, h2, h3, h5, h6, h4, h7⟩
  | box v =>
    rw [hob] at he ho
    obtain ⟨g, C, E, cur, h1, h2, h3, h4, _, h6⟩ := ho
    have h6' := h6 e he
    match v, he with
    | .dat (.arr n s) xs, he =>
      simp only [AObj.elems, Option.some.injEq] at he
      subst he
      obtain ⟨hl, hr⟩ := (h4 : RepC w (Avoid c.X H ρ) (.arr n s) xs cur.toList)
      have hlen := RepL.length (fun x c => RepC.length s) hr
      refine .inr ⟨g, C, E, cur, h1, h2, h3, by rw [h6'.1]; exact Nat.le_refl _, h6'.2, by rw [h6'.1]; simpa using hlen, ?_⟩
      rw [← hlen, List.take_length]; exact hr

/-- What a slice's value is, and the cells of its elements. -/
def SliceIs (w : World) (A : Nat → Prop) (val : Value) (e : Elems) : Prop :=
  ∃ (a : Option Addr) (cap : Nat), val = .slice a e.xs.length cap ∧ e.xs.length ≤ cap ∧ cap ≤ maxLen ∧
    (e.xs = [] ∨ ∃ ad L, a = some ad ∧ ad.block < w.heap.size ∧ RepL (RepC w A e.s) e.xs L ∧ CellsAt w ad L)

theorem RepC.slice {A : Nat → Prop} {s : Sch} {xs : List s.T} {val : Value} (h : RepC w A (.slc s) xs [val]) : SliceIs w A val ⟨s, xs⟩ := by
  obtain ⟨a, cap, e, h1, h2, h3⟩ := h
  refine ⟨a, cap, by simpa using e, h1, h2, h3.imp id ?_⟩
  rintro ⟨ad, L, h4, h5, _, h7, h8⟩
  exact ⟨ad, L, h4, h5, h7, h8⟩

theorem slR_elems (h : StOk c w H ρ) {o off : Nat} {len : Option Nat} {val : Value} {e : Elems} (hv : SlR H ρ o off len [val]) (he : (ASt.obj H o).elems = some e) :
    SliceIs w (Avoid c.X H ρ) val ⟨e.s, (e.xs.drop off).take (len.getD e.xs.length)⟩ ∧ off + len.getD e.xs.length ≤ e.xs.length := by
  obtain ⟨_, hv⟩ := hv
  simp only [he] at hv
  obtain ⟨a, cap, hval, h1, h2, h3, h4⟩ := hv
  generalize len.getD e.xs.length = n at *
  have hlen : ((e.xs.drop off).take n).length = n := by simp; omega
  refine ⟨⟨a, cap, ?_, by rw [hlen]; exact h2, h3, ?_⟩, h1⟩
  · rw [hlen]; simpa using hval
  · by_cases hn : n = 0
    · left; simp [hn]
    right
    rcases h.elems he with ⟨hr, hx⟩ | ⟨g, C, E, cur, hr, _, hb, _, _, _, hL⟩
    · rw [hr] at h4; simp only at h4; omega
    · rw [hr] at h4
      simp only at h4
      obtain ⟨h5, h6⟩ := h4
      rcases h6 with h6 | h6
      · omega
      refine ⟨_, _, h6, hb.lt, RepL.take (fun x c => RepC.length e.s) (RepL.drop (fun x c => RepC.length e.s) hL off) n, ?_⟩
      have := CellsAt.of_blk hb (off * e.s.cells) (n * e.s.cells)
      have e1 : ((cur.toList.take (e.xs.length * e.s.cells)).drop (off * e.s.cells)).take (n * e.s.cells) = (cur.toList.drop (off * e.s.cells)).take (n * e.s.cells) := by
        rw [List.drop_take, List.take_take]
        congr 1
        have : (off + n) * e.s.cells ≤ e.xs.length * e.s.cells := Nat.mul_le_mul_right _ h1
        rw [Nat.add_mul] at this
        omega
      rw [e1]; exact this

/-- The elements of a slice. -/
theorem elems_ok (h : StOk c w H ρ) {v : AV} {val : Value} {e : Elems} (hv : RV w (Avoid c.X H ρ) H ρ v val) (he : elemsOf H v = some e) : SliceIs w (Avoid c.X H ρ) val e := by
  match v, he with
  | .dat (.slc s) xs, he =>
    simp only [elemsOf, Option.some.injEq] at he
    subst he
    exact RepC.slice hv
  | .slx s xs, he =>
    simp only [elemsOf, Option.some.injEq] at he
    subst he
    obtain ⟨a, _, hr⟩ := (hv : RX w (Avoid c.X H ρ) H ρ (.slx s xs) true [val])
    exact RepC.slice hr
  | .row o, he =>
    simp only [elemsOf] at he
    have := (slR_elems h (hv : SlR H ρ o 0 none [val]) he).1
    simpa using this
  | .sl o off len, he =>
    simp only [elemsOf] at he
    cases hob : (ASt.obj H o).elems with
    | none => simp [hob] at he
    | some e' =>
      simp only [hob, Option.some.injEq] at he
      subst he
      exact (slR_elems h (hv : SlR H ρ o off (some len) [val]) hob).1

theorem castT_heq {s t : Sch} (h : s = t) (x : s.T) : HEq (castT h x) x := by subst h; rfl
/-- The elements of a slice whose shape is known, nil and empty ones with them. -/
theorem elemsAs_ok (h : StOk c w H ρ) {v : AV} {val : Value} {s : Sch} {xs : List s.T} (hv : RV w (Avoid c.X H ρ) H ρ v val) (he : elemsAs H s v = some xs) : SliceIs w (Avoid c.X H ρ) val ⟨s, xs⟩ := by
  unfold elemsAs at he
  split at he
  · cases he
    have hv' : [val] = [Value.slice none 0 0] := hv
    exact ⟨none, 0, by simpa using hv', Nat.le_refl _, Nat.zero_le _, .inl rfl⟩
  · cases he
    obtain ⟨a, hv'⟩ := (hv : ∃ a, [val] = [Value.slice a 0 0])
    exact ⟨a, 0, by simpa using hv', Nat.le_refl _, Nat.zero_le _, .inl rfl⟩
  · split at he
    · rename_i e hee
      split at he
      · rename_i hs
        have := elems_ok h hv hee
        obtain ⟨es, exs⟩ := e
        simp only at hs
        subst hs
        simp only [Option.some.injEq] at he
        subst he
        exact this
      · cases he
    · cases he

theorem SliceIs.len {A : Nat → Prop} {val : Value} {e : Elems} (h : SliceIs w A val e) : ∃ a cap, val = .slice a e.xs.length cap := by
  obtain ⟨a, cap, h, _⟩ := h; exact ⟨a, cap, h⟩

/-- A length. -/
theorem lenOf_ok (h : StOk c w H ρ) {v : AV} {val : Value} {n : Nat} (hv : RV w (Avoid c.X H ρ) H ρ v val) (hn : lenOf H v = some n) :
    (∃ b : List UInt8, v = .dat .str b ∧ val = .string ⟨b.toArray⟩ ∧ n = b.length ∧ n ≤ maxLen) ∨ (∃ a cap, val = .slice a n cap ∧ n ≤ maxLen ∧ n ≤ cap) := by
  unfold lenOf at hn
  split at hn
  · cases hn
    obtain ⟨h1, h2⟩ := RV.str hv
    exact .inl ⟨_, rfl, h1, rfl, h2⟩
  · cases hn
    have hv' : [val] = [Value.slice none 0 0] := hv
    exact .inr ⟨none, 0, by simpa using hv', Nat.zero_le _, Nat.le_refl _⟩
  · cases hn
    obtain ⟨a, hv'⟩ := (hv : ∃ a, [val] = [Value.slice a 0 0])
    exact .inr ⟨a, 0, by simpa using hv', Nat.zero_le _, Nat.le_refl _⟩
  · rename_i o off len
    cases he : (ASt.obj H o).elems with
    | none => simp [he] at hn
    | some e =>
      simp only [he, Option.map_some, Option.some.injEq] at hn
      subst hn
      obtain ⟨_, hs⟩ := (hv : SlR H ρ o off (some len) [val])
      simp only [he] at hs
      obtain ⟨a, cap, hval, _, h2, h3, _⟩ := hs
      exact .inr ⟨a, cap, by simpa using hval, Nat.le_trans h2 h3, h2⟩
  · cases he : elemsOf H v with
    | none => simp [he] at hn
    | some e =>
      simp only [he, Option.map_some, Option.some.injEq] at hn
      subst hn
      obtain ⟨a, cap, h1, h2, h3, _⟩ := elems_ok h hv he
      exact .inr ⟨a, cap, h1, Nat.le_trans h2 h3, h2⟩
end
end Go.AI
