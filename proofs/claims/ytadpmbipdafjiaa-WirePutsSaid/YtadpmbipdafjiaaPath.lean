/- Parts of values: fields and elements, read and written. -/
import Derived.Test.YtadpmbipdafjiaaAppend
namespace Go.AI
open Go Go.RowKit

theorem Sch.lay_cells : ∀ s : Sch, s.lay.cells = s.cells
  | .int _ => rfl
  | .bool => rfl
  | .str => rfl
  | .slc _ => rfl
  | .arr n s => by simp only [Sch.lay, Lay.cells, Sch.cells, Sch.lay_cells s]
  | .pair a b => by simp only [Sch.lay, Lay.cells, Sch.cells, Sch.lay_cells a, Sch.lay_cells b]
  | .unit => rfl
theorem AV.lay_cells : ∀ v : AV, v.lay.cells = v.cells
  | .dat s _ => Sch.lay_cells s
  | .pr a b => by simp only [AV.lay, Lay.cells, AV.cells, AV.lay_cells a, AV.lay_cells b]
  | .un => rfl
  | .slx _ _ => rfl
  | .nils => rfl
  | .emp => rfl
  | .row _ => rfl
  | .sl _ _ _ => rfl
  | .vptr _ _ => rfl
  | .ptr _ _ => rfl
  | .fn _ _ => rfl
  | .nilfn => rfl
  | .tup _ => rfl
  | .dead => rfl
theorem Sch.lay_agg (s : Sch) : s.lay.agg = s.agg := by cases s <;> rfl
theorem AV.lay_agg (v : AV) : v.lay.agg = v.agg := by cases v <;> first | rfl | exact Sch.lay_agg _

section
variable {w : World} {A : Nat → Prop} {H : List AObj} {ρ : Rho}

theorem RX.len {v : AV} {cs : List Value} (h : RX w A H ρ v true cs) : cs.length = v.lay.cells := by rw [AV.lay_cells]; exact RX.length v h

theorem drop_take_append {α : Type} (c r : List α) (o n : Nat) : ((c ++ r).drop (c.length + o)).take n = (r.drop o).take n := by
  rw [List.drop_append, List.drop_eq_nil_of_le (by omega)]; simp

/-- A part of a struct. -/
theorem comp_ok : ∀ (k : Nat) (v : AV) {cs : List Value} {off : Nat} {l : Lay}, RX w A H ρ v true cs → v.lay.comp k = some (off, l) →
    (v.comp k).lay = l ∧ RX w A H ρ (v.comp k) true ((cs.drop off).take l.cells) ∧ off + l.cells ≤ cs.length
  | 0, .pr a b, cs, off, l, h, hl => by
    simp only [AV.lay, Lay.comp, Option.some.injEq, Prod.mk.injEq] at hl
    obtain ⟨rfl, rfl⟩ := hl
    obtain ⟨c, r, rfl, h1, h2⟩ := h
    have e := h1.len
    refine ⟨rfl, ?_, by rw [List.length_append]; omega⟩
    rw [List.drop_zero, ← e, List.take_left]; exact h1
  | k + 1, .pr a b, cs, off, l, h, hl => by
    simp only [AV.lay, Lay.comp, Option.map_eq_some_iff] at hl
    obtain ⟨⟨o, l'⟩, hl, he⟩ := hl
    simp only [Prod.mk.injEq] at he
    obtain ⟨rfl, rfl⟩ := he
    obtain ⟨c, r, rfl, h1, h2⟩ := h
    obtain ⟨g1, g2, g3⟩ := comp_ok k b h2 hl
    have e := h1.len
    refine ⟨g1, ?_, by rw [List.length_append]; omega⟩
    rw [← e, drop_take_append]; exact g2
  | 0, .dat (.pair a b) x, cs, off, l, h, hl => by
    simp only [AV.lay, Sch.lay, Lay.comp, Option.some.injEq, Prod.mk.injEq] at hl
    obtain ⟨rfl, rfl⟩ := hl
    obtain ⟨c, r, rfl, h1, h2⟩ := (h : RepC w A (.pair a b) x cs)
    have e := RepC.length a h1
    rw [← Sch.lay_cells] at e
    refine ⟨rfl, ?_, by rw [List.length_append]; omega⟩
    rw [List.drop_zero, ← e, List.take_left]; exact h1
  | k + 1, .dat (.pair a b) x, cs, off, l, h, hl => by
    simp only [AV.lay, Sch.lay, Lay.comp, Option.map_eq_some_iff] at hl
    obtain ⟨⟨o, l'⟩, hl, he⟩ := hl
    simp only [Prod.mk.injEq] at he
    obtain ⟨rfl, rfl⟩ := he
    obtain ⟨c, r, rfl, h1, h2⟩ := (h : RepC w A (.pair a b) x cs)
    obtain ⟨g1, g2, g3⟩ := comp_ok k (.dat b x.2) (h2 : RX w A H ρ (.dat b x.2) true r) hl
    have e := RepC.length a h1
    rw [← Sch.lay_cells] at e
    refine ⟨g1, ?_, by rw [List.length_append]; omega⟩
    rw [← e, drop_take_append]; exact g2
  | k, .dat (.int _) x, cs, off, l, h, hl => by cases k <;> simp [AV.lay, Sch.lay, Lay.comp] at hl
  | k, .dat .bool x, cs, off, l, h, hl => by cases k <;> simp [AV.lay, Sch.lay, Lay.comp] at hl
  | k, .dat .str x, cs, off, l, h, hl => by cases k <;> simp [AV.lay, Sch.lay, Lay.comp] at hl
  | k, .dat (.slc _) x, cs, off, l, h, hl => by cases k <;> simp [AV.lay, Sch.lay, Lay.comp] at hl
  | k, .dat (.arr _ _) x, cs, off, l, h, hl => by cases k <;> simp [AV.lay, Sch.lay, Lay.comp] at hl
  | k, .dat .unit x, cs, off, l, h, hl => by cases k <;> simp [AV.lay, Sch.lay, Lay.comp] at hl
  | k, .un, cs, off, l, h, hl => by cases k <;> simp [AV.lay, Lay.comp] at hl
  | k, .slx _ _, cs, off, l, h, hl => by cases k <;> simp [AV.lay, Lay.comp] at hl
  | k, .nils, cs, off, l, h, hl => by cases k <;> simp [AV.lay, Lay.comp] at hl
  | k, .emp, cs, off, l, h, hl => by cases k <;> simp [AV.lay, Lay.comp] at hl
  | k, .row _, cs, off, l, h, hl => by cases k <;> simp [AV.lay, Lay.comp] at hl
  | k, .sl _ _ _, cs, off, l, h, hl => by cases k <;> simp [AV.lay, Lay.comp] at hl
  | k, .vptr _ _, cs, off, l, h, hl => by cases k <;> simp [AV.lay, Lay.comp] at hl
  | k, .ptr _ _, cs, off, l, h, hl => by cases k <;> simp [AV.lay, Lay.comp] at hl
  | k, .fn _ _, cs, off, l, h, hl => by cases k <;> simp [AV.lay, Lay.comp] at hl
  | k, .nilfn, cs, off, l, h, hl => by cases k <;> simp [AV.lay, Lay.comp] at hl
  | k, .tup _, cs, off, l, h, hl => by cases k <;> simp [AV.lay, Lay.comp] at hl
  | k, .dead, cs, off, l, h, hl => by cases k <;> simp [AV.lay, Lay.comp] at hl

theorem mkPr_lay (a b : AV) : (AV.mkPr a b).lay = .pair a.lay b.lay := by
  unfold AV.mkPr; split <;> rfl
theorem mkPr_stands (a b : AV) (ha : a.stands = true) (hb : b.stands = true) : (AV.mkPr a b).stands = true := by
  unfold AV.mkPr; split
  · rfl
  · simp [AV.stands, ha, hb]
theorem mkPr_agg (a b : AV) : (AV.mkPr a b).agg = true := by
  unfold AV.mkPr; split <;> rfl
theorem mkPr_rx {a b : AV} {c r : List Value} (ha : RX w A H ρ a true c) (hb : RX w A H ρ b true r) : RX w A H ρ (AV.mkPr a b) true (c ++ r) := by
  unfold AV.mkPr; split
  · exact (⟨c, r, rfl, ha, hb⟩ : RepC w A (.pair _ _) (_, _) (c ++ r))
  · exact ⟨c, r, rfl, ha, hb⟩

theorem setComp_ok : ∀ (k : Nat) (v u : AV) {z : AV} {cs c' : List Value} {off : Nat} {l : Lay}, RX w A H ρ v true cs → v.lay.comp k = some (off, l) → v.setComp k u = some z → u.lay = l → u.stands = true → v.stands = true → RX w A H ρ u true c' →
    z.lay = v.lay ∧ z.stands = true ∧ RX w A H ρ z true (cs.take off ++ c' ++ cs.drop (off + c'.length))
  | 0, .pr a b, u, z, cs, c', off, l, h, hl, hz, hu, hus, hvs, hc => by
    simp only [AV.lay, Lay.comp, Option.some.injEq, Prod.mk.injEq] at hl
    obtain ⟨rfl, rfl⟩ := hl
    simp only [AV.setComp, Option.some.injEq] at hz
    subst hz
    obtain ⟨c, r, rfl, h1, h2⟩ := h
    have e := h1.len
    have e' := hc.len
    rw [hu] at e'
    simp only [AV.stands, Bool.and_eq_true] at hvs
    refine ⟨by rw [mkPr_lay, hu]; rfl, mkPr_stands _ _ hus hvs.2, ?_⟩
    have : (c ++ r).drop (0 + c'.length) = r := by rw [Nat.zero_add, e', ← e, List.drop_left]
    rw [this, List.take_zero, List.nil_append]
    exact mkPr_rx hc h2
  | k + 1, .pr a b, u, z, cs, c', off, l, h, hl, hz, hu, hus, hvs, hc => by
    simp only [AV.lay, Lay.comp, Option.map_eq_some_iff] at hl
    obtain ⟨⟨o, l'⟩, hl, he⟩ := hl
    simp only [Prod.mk.injEq] at he
    obtain ⟨rfl, rfl⟩ := he
    simp only [AV.setComp, Option.map_eq_some_iff] at hz
    obtain ⟨z', hz, rfl⟩ := hz
    obtain ⟨c, r, rfl, h1, h2⟩ := h
    simp only [AV.stands, Bool.and_eq_true] at hvs
    obtain ⟨g1, g2, g3⟩ := setComp_ok k b u h2 hl hz hu hus hvs.2 hc
    have e := h1.len
    refine ⟨by rw [mkPr_lay, g1]; rfl, mkPr_stands _ _ hvs.1 g2, ?_⟩
    have e1 : (c ++ r).take (a.lay.cells + o) = c ++ r.take o := by rw [← e, List.take_append]; simp [List.take_of_length_le]
    have e2 : (c ++ r).drop (a.lay.cells + o + c'.length) = r.drop (o + c'.length) := by rw [← e, List.drop_append, List.drop_eq_nil_of_le (by omega), List.nil_append]; congr 1; omega
    simp only [e1, e2, List.append_assoc] at g3 ⊢
    exact mkPr_rx h1 g3
  | 0, .dat (.pair a b) x, u, z, cs, c', off, l, h, hl, hz, hu, hus, hvs, hc => by
    simp only [AV.lay, Sch.lay, Lay.comp, Option.some.injEq, Prod.mk.injEq] at hl
    obtain ⟨rfl, rfl⟩ := hl
    simp only [AV.setComp, Option.some.injEq] at hz
    subst hz
    obtain ⟨c, r, rfl, h1, h2⟩ := (h : RepC w A (.pair a b) x cs)
    have e := RepC.length a h1
    rw [← Sch.lay_cells] at e
    have e' := hc.len
    rw [hu] at e'
    refine ⟨by rw [mkPr_lay, hu]; rfl, mkPr_stands _ _ hus rfl, ?_⟩
    have : (c ++ r).drop (0 + c'.length) = r := by rw [Nat.zero_add, e', ← e, List.drop_left]
    rw [this, List.take_zero, List.nil_append]
    exact mkPr_rx hc (h2 : RX w A H ρ (.dat b x.2) true r)
  | k + 1, .dat (.pair a b) x, u, z, cs, c', off, l, h, hl, hz, hu, hus, hvs, hc => by
    simp only [AV.lay, Sch.lay, Lay.comp, Option.map_eq_some_iff] at hl
    obtain ⟨⟨o, l'⟩, hl, he⟩ := hl
    simp only [Prod.mk.injEq] at he
    obtain ⟨rfl, rfl⟩ := he
    simp only [AV.setComp, Option.map_eq_some_iff] at hz
    obtain ⟨z', hz, rfl⟩ := hz
    obtain ⟨c, r, rfl, h1, h2⟩ := (h : RepC w A (.pair a b) x cs)
    obtain ⟨g1, g2, g3⟩ := setComp_ok k (.dat b x.2) u (h2 : RX w A H ρ (.dat b x.2) true r) hl hz hu hus rfl hc
    have e := RepC.length a h1
    rw [← Sch.lay_cells] at e
    refine ⟨by rw [mkPr_lay, g1]; rfl, mkPr_stands _ _ rfl g2, ?_⟩
    have e1 : (c ++ r).take (a.lay.cells + o) = c ++ r.take o := by rw [← e, List.take_append]; simp [List.take_of_length_le]
    have e2 : (c ++ r).drop (a.lay.cells + o + c'.length) = r.drop (o + c'.length) := by rw [← e, List.drop_append, List.drop_eq_nil_of_le (by omega), List.nil_append]; congr 1; omega
    simp only [e1, e2, List.append_assoc] at g3 ⊢
    exact mkPr_rx (h1 : RX w A H ρ (.dat a x.1) true c) g3
  | k, .dat (.int _) x, u, z, cs, c', off, l, h, hl, _, _, _, _, _ => by cases k <;> simp [AV.lay, Sch.lay, Lay.comp] at hl
  | k, .dat .bool x, u, z, cs, c', off, l, h, hl, _, _, _, _, _ => by cases k <;> simp [AV.lay, Sch.lay, Lay.comp] at hl
  | k, .dat .str x, u, z, cs, c', off, l, h, hl, _, _, _, _, _ => by cases k <;> simp [AV.lay, Sch.lay, Lay.comp] at hl
  | k, .dat (.slc _) x, u, z, cs, c', off, l, h, hl, _, _, _, _, _ => by cases k <;> simp [AV.lay, Sch.lay, Lay.comp] at hl
  | k, .dat (.arr _ _) x, u, z, cs, c', off, l, h, hl, _, _, _, _, _ => by cases k <;> simp [AV.lay, Sch.lay, Lay.comp] at hl
  | k, .dat .unit x, u, z, cs, c', off, l, h, hl, _, _, _, _, _ => by cases k <;> simp [AV.lay, Sch.lay, Lay.comp] at hl
  | k, .un, u, z, cs, c', off, l, h, hl, _, _, _, _, _ => by cases k <;> simp [AV.lay, Lay.comp] at hl
  | k, .slx _ _, u, z, cs, c', off, l, h, hl, _, _, _, _, _ => by cases k <;> simp [AV.lay, Lay.comp] at hl
  | k, .nils, u, z, cs, c', off, l, h, hl, _, _, _, _, _ => by cases k <;> simp [AV.lay, Lay.comp] at hl
  | k, .emp, u, z, cs, c', off, l, h, hl, _, _, _, _, _ => by cases k <;> simp [AV.lay, Lay.comp] at hl
  | k, .row _, u, z, cs, c', off, l, h, hl, _, _, _, _, _ => by cases k <;> simp [AV.lay, Lay.comp] at hl
  | k, .sl _ _ _, u, z, cs, c', off, l, h, hl, _, _, _, _, _ => by cases k <;> simp [AV.lay, Lay.comp] at hl
  | k, .vptr _ _, u, z, cs, c', off, l, h, hl, _, _, _, _, _ => by cases k <;> simp [AV.lay, Lay.comp] at hl
  | k, .ptr _ _, u, z, cs, c', off, l, h, hl, _, _, _, _, _ => by cases k <;> simp [AV.lay, Lay.comp] at hl
  | k, .fn _ _, u, z, cs, c', off, l, h, hl, _, _, _, _, _ => by cases k <;> simp [AV.lay, Lay.comp] at hl
  | k, .nilfn, u, z, cs, c', off, l, h, hl, _, _, _, _, _ => by cases k <;> simp [AV.lay, Lay.comp] at hl
  | k, .tup _, u, z, cs, c', off, l, h, hl, _, _, _, _, _ => by cases k <;> simp [AV.lay, Lay.comp] at hl
  | k, .dead, u, z, cs, c', off, l, h, hl, _, _, _, _, _ => by cases k <;> simp [AV.lay, Lay.comp] at hl

/-- An element or a part. -/
theorem sub_ok (i : Nat) (v : AV) {cs : List Value} {off : Nat} {l : Lay} (h : RX w A H ρ v true cs) (hl : v.lay.sub i = some (off, l)) :
    (v.sub i).lay = l ∧ RX w A H ρ (v.sub i) true ((cs.drop off).take l.cells) ∧ off + l.cells ≤ cs.length := by
  by_cases hv : ∃ n s xs, v = .dat (.arr n s) xs
  · obtain ⟨n, s, xs, rfl⟩ := hv
    simp only [AV.lay, Sch.lay, Lay.sub] at hl
    split at hl
    · rename_i hi
      simp only [Option.some.injEq, Prod.mk.injEq] at hl
      obtain ⟨rfl, rfl⟩ := hl
      obtain ⟨hn, hr⟩ := (h : RepC w A (.arr n s) xs cs)
      have hlen := RepL.length (fun x c => RepC.length s) hr
      have hx : xs[i]? = some (xs.getD i s.dflt) := by
        rw [List.getD_eq_getElem?_getD, List.getElem?_eq_getElem (by omega)]; rfl
      refine ⟨rfl, ?_, ?_⟩
      · rw [Sch.lay_cells]; exact RepL.at_ (fun x c => RepC.length s) hr hx
      · rw [Sch.lay_cells, hlen, hn]
        have : (i + 1) * s.cells ≤ n * s.cells := Nat.mul_le_mul_right _ hi
        rw [Nat.add_mul] at this; omega
    · cases hl
  · have h1 : v.sub i = v.comp i := by
      unfold AV.sub; split
      · exact absurd ⟨_, _, _, rfl⟩ hv
      · rfl
    have h2 : v.lay.sub i = v.lay.comp i := by
      unfold Lay.sub; split
      · rename_i n a hla
        cases v <;> simp [AV.lay] at hla
        rename_i s x
        cases s <;> simp [Sch.lay] at hla
        exact absurd ⟨_, _, _, rfl⟩ hv
      · rfl
    rw [h2] at hl
    rw [h1]
    exact comp_ok i v h hl

theorem setSub_ok (i : Nat) (v u : AV) {z : AV} {cs c' : List Value} {off : Nat} {l : Lay} (h : RX w A H ρ v true cs) (hl : v.lay.sub i = some (off, l)) (hz : v.setSub i u = some z)
    (hu : u.lay = l) (hus : u.stands = true) (hvs : v.stands = true) (hc : RX w A H ρ u true c') :
    z.lay = v.lay ∧ z.stands = true ∧ RX w A H ρ z true (cs.take off ++ c' ++ cs.drop (off + c'.length)) := by
  by_cases hv : ∃ n s xs, v = .dat (.arr n s) xs
  · obtain ⟨n, s, xs, rfl⟩ := hv
    simp only [AV.lay, Sch.lay, Lay.sub] at hl
    split at hl
    · rename_i hi
      simp only [Option.some.injEq, Prod.mk.injEq] at hl
      obtain ⟨rfl, rfl⟩ := hl
      obtain ⟨hn, hr⟩ := (h : RepC w A (.arr n s) xs cs)
      simp only [AV.setSub] at hz
      split at hz
      · rename_i t y
        split at hz
        · rename_i hts
          subst hts
          simp only [castT, Option.some.injEq] at hz
          subst hz
          refine ⟨rfl, rfl, ?_⟩
          have hlen := RepC.length t hc
          rw [Sch.lay_cells, hlen]
          exact (⟨by simpa using hn, RepL.set (fun x c => RepC.length t) hr (by omega) hc⟩ : RepC w A (.arr n t) (xs.set i y) _)
        · cases hz
      · cases hz
    · cases hl
  · have h1 : v.setSub i u = v.setComp i u := by
      unfold AV.setSub; split
      · exact absurd ⟨_, _, _, rfl⟩ hv
      · rfl
    have h2 : v.lay.sub i = v.lay.comp i := by
      unfold Lay.sub; split
      · rename_i n a hla
        cases v <;> simp [AV.lay] at hla
        rename_i s x
        cases s <;> simp [Sch.lay] at hla
        exact absurd ⟨_, _, _, rfl⟩ hv
      · rfl
    rw [h2] at hl
    rw [h1] at hz
    exact setComp_ok i v u h hl hz hu hus hvs hc

/-- A part at a path. -/
theorem get_ok : ∀ (p : List Nat) (v : AV) {cs : List Value} {off : Nat} {l : Lay}, RX w A H ρ v true cs → v.lay.at_ p = some (off, l) →
    (v.get p).lay = l ∧ RX w A H ρ (v.get p) true ((cs.drop off).take l.cells) ∧ off + l.cells ≤ cs.length
  | [], v, cs, off, l, h, hl => by
    simp only [Lay.at_, Option.some.injEq, Prod.mk.injEq] at hl
    obtain ⟨rfl, rfl⟩ := hl
    have e := h.len
    refine ⟨rfl, ?_, by omega⟩
    rw [List.drop_zero, ← e, List.take_length]; exact h
  | i :: p, v, cs, off, l, h, hl => by
    simp only [Lay.at_, Option.bind_eq_some_iff, Option.map_eq_some_iff] at hl
    obtain ⟨⟨o, l1⟩, h1, ⟨o2, l2⟩, h2, he⟩ := hl
    simp only [Prod.mk.injEq] at he
    obtain ⟨rfl, rfl⟩ := he
    obtain ⟨g1, g2, g3⟩ := sub_ok i v h h1
    obtain ⟨k1, k2, k3⟩ := get_ok p (v.sub i) g2 (by rw [g1]; exact h2)
    have hlen : ((cs.drop o).take l1.cells).length = l1.cells := by rw [List.length_take, List.length_drop]; omega
    rw [hlen] at k3
    refine ⟨k1, ?_, by omega⟩
    have : ((((cs.drop o).take l1.cells).drop o2).take l2.cells) = (cs.drop (o + o2)).take l2.cells := by
      rw [List.drop_take, List.take_take, List.drop_drop]
      congr 1; omega
    rw [this] at k2; exact k2

theorem put_ok : ∀ (p : List Nat) (v u : AV) {z : AV} {cs c' : List Value} {off : Nat} {l : Lay}, RX w A H ρ v true cs → v.lay.at_ p = some (off, l) → v.put p u = some z → u.stands = true → v.stands = true → RX w A H ρ u true c' →
    z.lay = v.lay ∧ z.stands = true ∧ u.lay = l ∧ RX w A H ρ z true (cs.take off ++ c' ++ cs.drop (off + c'.length))
  | [], v, u, z, cs, c', off, l, h, hl, hz, hus, hvs, hc => by
    simp only [Lay.at_, Option.some.injEq, Prod.mk.injEq] at hl
    obtain ⟨rfl, rfl⟩ := hl
    simp only [AV.put] at hz
    split at hz
    · rename_i hcond
      simp only [Option.some.injEq] at hz
      subst hz
      simp only [Bool.and_eq_true, beq_iff_eq] at hcond
      have e := h.len
      have e' := hc.len
      rw [hcond.2] at e'
      refine ⟨hcond.2, hus, hcond.2, ?_⟩
      rw [List.take_zero, List.nil_append, List.drop_eq_nil_of_le (by omega), List.append_nil]; exact hc
    · cases hz
  | i :: p, v, u, z, cs, c', off, l, h, hl, hz, hus, hvs, hc => by
    simp only [Lay.at_, Option.bind_eq_some_iff, Option.map_eq_some_iff] at hl
    obtain ⟨⟨o, l1⟩, h1, ⟨o2, l2⟩, h2, he⟩ := hl
    simp only [Prod.mk.injEq] at he
    obtain ⟨rfl, rfl⟩ := he
    simp only [AV.put, Option.bind_eq_some_iff] at hz
    obtain ⟨z', hz', hz⟩ := hz
    obtain ⟨g1, g2, g3⟩ := sub_ok i v h h1
    have hss : (v.sub i).stands = true := by
      cases hst : (v.sub i).stands with
      | true => rfl
      | false =>
        exfalso
        have : ∀ u : AV, u.stands = false → ∀ cs, RX w A H ρ u true cs → False := by
          intro u
          induction u with
          | pr a b iha ihb =>
            intro hs cs hr
            simp only [AV.stands, Bool.and_eq_false_iff] at hs
            obtain ⟨c, r, _, hr1, hr2⟩ := hr
            rcases hs with hs | hs
            · exact iha hs _ hr1
            · exact ihb hs _ hr2
          | tup a => intro _ cs hr; exact hr.elim
          | dead => intro _ cs hr; exact hr.elim
          | _ => intro hs; simp [AV.stands] at hs
        exact this _ hst _ g2
    obtain ⟨k1, k2, k3, k4⟩ := put_ok p (v.sub i) u g2 (by rw [g1]; exact h2) hz' hus hss hc
    obtain ⟨m1, m2, m3⟩ := setSub_ok i v z' h h1 hz (k1.trans g1) k2 hvs k4
    refine ⟨m1, m2, k3, ?_⟩
    have hcl := hc.len
    rw [k3] at hcl
    have hin : o2 + l2.cells ≤ l1.cells := by
      have := (get_ok p (v.sub i) g2 (by rw [g1]; exact h2)).2.2
      rw [List.length_take, List.length_drop] at this; omega
    have hlen : ((cs.drop o).take l1.cells).length = l1.cells := by rw [List.length_take, List.length_drop]; omega
    have e : cs.take o ++ ((((cs.drop o).take l1.cells).take o2 ++ c' ++ ((cs.drop o).take l1.cells).drop (o2 + c'.length))) ++
        cs.drop (o + ((((cs.drop o).take l1.cells).take o2 ++ c' ++ ((cs.drop o).take l1.cells).drop (o2 + c'.length))).length) =
        cs.take (o + o2) ++ c' ++ cs.drop (o + o2 + c'.length) := by
      have hl2 : ((((cs.drop o).take l1.cells).take o2 ++ c' ++ ((cs.drop o).take l1.cells).drop (o2 + c'.length))).length = l1.cells := by
        simp only [List.length_append, List.length_take, List.length_drop]; omega
      rw [hl2, List.take_take, Nat.min_eq_left (by omega : o2 ≤ l1.cells)]
      have t1 : cs.take (o + o2) = cs.take o ++ (cs.drop o).take o2 := List.take_add
      have t2 : cs.drop (o + o2 + c'.length) = ((cs.drop o).take l1.cells).drop (o2 + c'.length) ++ cs.drop (o + l1.cells) := by
        rw [List.drop_take, List.drop_drop]
        have : cs.drop (o + l1.cells) = (cs.drop (o + (o2 + c'.length))).drop (l1.cells - (o2 + c'.length)) := by
          rw [List.drop_drop]; congr 1; omega
        rw [this, List.take_append_drop, Nat.add_assoc]
      rw [t1, t2]
      simp only [List.append_assoc]
    rw [e] at m3; exact m3
end
end Go.AI
