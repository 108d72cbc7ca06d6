/- Elements: their addresses, their values; stores. -/
import Derived.Test.YtadpmbipdafjiaaAddr
namespace Go.AI
open Go Go.RowKit

section
variable {P : Program} {Γ : Gam} {c : Ctx} {w : World} {H H' : List AObj} {ρ : Rho} {o : Nat} {cur : List AV} {a : Act}

/-- The layout of an object that has elements. -/
theorem elems_lay (h : StOk c w H ρ) {o : Nat} {e : Elems} (he : (ASt.obj H o).elems = some e) : (ASt.obj H o).live = true ∧ (ASt.obj H o).lay = .arr e.xs.length e.s.lay := by
  have ho := h.obj o
  cases hob : ASt.obj H o with
  | gone => rw [hob] at he; simp [AObj.elems] at he
  | free => rw [hob] at he; simp [AObj.elems] at he
  | row E s xs fz =>
    rw [hob] at he
    simp only [AObj.elems, Option.some.injEq] at he
    subst he
    exact ⟨rfl, rfl⟩
  | box v =>
    rw [hob] at he ho
    obtain ⟨g, C, E, cur, _, _, _, h4, _, _⟩ := ho
    match v, he with
    | .dat (.arr n s) xs, he =>
      simp only [AObj.elems, Option.some.injEq] at he
      subst he
      refine ⟨rfl, ?_⟩
      have : xs.length = n := (h4 : RepC w (Avoid c.X H ρ) (.arr n s) xs _).1
      simp [AObj.lay, AV.lay, Sch.lay, this]

theorem arr_sub {n i : Nat} {l : Lay} (h : i < n) : (Lay.arr n l).sub i = some (i * l.cells, l) := by simp [Lay.sub, h]

theorem ite_some {α : Type} {p : Prop} [Decidable p] {a : Option α} {b : α} (h : (if p then a else none) = some b) : p ∧ a = some b := by
  split at h
  · rename_i hp; exact ⟨hp, h⟩
  · cases h

theorem array_ok (hΓ : GamOk P Γ) {t e : TypeId} {n cl : Nat} {sc : Option Sch} (h : Γ.at_ t = some ⟨.array n e, cl, sc⟩) : P.underlying t = some (.array n e) := by
  obtain ⟨i, d, _, hu, _, hk⟩ := (hΓ t _ h).info
  have hd : d = .array n e := hk
  subst hd; exact hu
theorem slice_ty (hΓ : GamOk P Γ) {t e : TypeId} {cl : Nat} {sc : Option Sch} (h : Γ.at_ t = some ⟨.slice e, cl, sc⟩) : P.underlying t = some (.slice e) := by
  obtain ⟨i, d, _, hu, _, hk⟩ := (hΓ t _ h).info
  have hd : d = .slice e := hk
  subst hd; exact hu

theorem run_indexSlice {t e : TypeId} {ti : TI} (hu : P.underlying t = some (.slice e)) (hT : TIOk P Γ e ti) {ad : Addr} {len cap : Nat} {k : IntKind} {i : Int} (h0 : 0 ≤ i) (h1 : i < len) :
    (Instr.indexAt t (.slice (some ad) len cap) (.int k i)).run P w = .ok (.pointer (some (ad.add (i.toNat * ti.cells)))) w := by
  have hc : 0 ≤ i ∧ i < (len : Int) := ⟨h0, h1⟩
  simp [Instr.indexAt, asIntOf, run_underlying hu, run_sizeOf hT, hc]
theorem run_indexArray {t e : TypeId} {ti : TI} {len : Nat} (hu : P.underlying t = some (.array len e)) (hT : TIOk P Γ e ti) {ad : Addr} {k : IntKind} {i : Int} (h0 : 0 ≤ i) (h1 : i < len) :
    (Instr.indexAt t (.pointer (some ad)) (.int k i)).run P w = .ok (.pointer (some (ad.add (i.toNat * ti.cells)))) w := by
  have hc : 0 ≤ i ∧ i < (len : Int) := ⟨h0, h1⟩
  simp [Instr.indexAt, asIntOf, run_underlying hu, run_sizeOf hT, hc, Instr.sureAddr]

theorem at_mem {s : Sch} {A : Nat → Prop} {xs : List s.T} {L : List Value} {ad : Addr} (hr : RepL (RepC w A s) xs L) (hc : CellsAt w ad L) {i : Nat} (hi : i < xs.length) :
    RepC w A s (xs.getD i s.dflt) ((L.drop (i * s.cells)).take s.cells) ∧ CellsAt w (ad.add (i * s.cells)) ((L.drop (i * s.cells)).take s.cells) := by
  refine ⟨?_, ?_⟩
  · refine RepL.at_ (fun x c => RepC.length s) hr ?_
    simp [List.getD, List.getElem?_eq_getElem hi]
  · intro j u hu
    rw [addr_add_add]
    rw [List.getElem?_take] at hu
    split at hu
    · rw [List.getElem?_drop] at hu; exact hc _ _ hu
    · cases hu

/-- An element's address. -/
theorem indexAddr_ok (hΓ : GamOk P Γ) (h : StOk c w H ρ) {t : TypeId} {x i v : AV} {xv iv : Value} {U : Upd} (hx : RV w (Avoid c.X H ρ) H ρ x xv) (hi : RV w (Avoid c.X H ρ) H ρ i iv) (ha : aIndexAddr Γ t x i H = some (true, v, U)) :
    Gives P c w H ρ (Instr.indexAt t xv iv) v U := by
  unfold aIndexAddr at ha
  split at ha
  · rename_i k y
    obtain ⟨rfl, _⟩ := RV.int hi
    simp only at ha
    generalize hz : toI k y = z at *
    have fits : ∀ {e : TypeId} {s : Sch}, (match Γ.at_ e with | some ti => ti.cells == s.cells | none => false) = true → ∃ ti, TIOk P Γ e ti ∧ ti.cells = s.cells := by
      intro e s hf
      split at hf
      · rename_i ti hti; exact ⟨ti, hΓ e ti hti, by simpa using hf⟩
      · cases hf
    have row : ∀ {e : TypeId} {o off : Nat} {len : Option Nat} {el : Elems}, P.underlying t = some (.slice e) → (ASt.obj H o).elems = some el → SlR H ρ o off len [xv] →
        (∃ ti, TIOk P Γ e ti ∧ ti.cells = el.s.cells) → 0 ≤ z → z < ((len.getD el.xs.length : Nat) : Int) → Gives P c w H ρ (Instr.indexAt t xv (.int k z)) (.ptr o [off + z.toNat]) [] := by
      intro e o off len el hu he hs ⟨ti, hT, hcl⟩ h0 h1
      obtain ⟨hlive, hlay⟩ := elems_lay h he
      obtain ⟨_, hs⟩ := hs
      simp only [he] at hs
      obtain ⟨ad, cap, hval, g1, g2, g3, g4⟩ := hs
      simp only [List.cons.injEq, and_true] at hval
      subst hval
      cases hr : ρ o with
      | none => rw [hr] at g4; simp only at g4; omega
      | some gC =>
        rw [hr] at g4
        simp only at g4
        rcases g4.2 with g5 | g5
        · omega
        subst g5
        refine Gives.same h (run_indexSlice hu hT h0 h1) ?_
        rw [add_lit, hcl, ← Nat.add_mul]
        refine (.inr ⟨hlive, gC.1, gC.2, (off + z.toNat) * el.s.cells, el.s.lay, ?_, hr, rfl⟩ : PtrR (ASt.obj H o) (ρ o) [off + z.toNat] [_])
        rw [hlay]
        simp only [Lay.at_, arr_sub (show off + z.toNat < el.xs.length by omega), Option.bind_some, Option.map_some, Nat.add_zero, Sch.lay_cells]
    have vrow : ∀ {e : TypeId} {s : Sch} {xs : List s.T}, P.underlying t = some (.slice e) → RepC w (Avoid c.X H ρ) (.slc s) xs [xv] → (∃ ti, TIOk P Γ e ti ∧ ti.cells = s.cells) → 0 ≤ z → z < (xs.length : Int) →
        Gives P c w H ρ (Instr.indexAt t xv (.int k z)) (.vptr s (xs.getD z.toNat s.dflt)) [] := by
      intro e s xs hu hr ⟨ti, hT, hcl⟩ h0 h1
      obtain ⟨ad, cap, hval, g1, g2, g3⟩ := hr
      simp only [List.cons.injEq, and_true] at hval
      subst hval
      rcases g3 with g3 | ⟨b, L, rfl, hb, hA, hL, hc⟩
      · subst g3; simp at h1; omega
      obtain ⟨k1, k2⟩ := at_mem hL hc (i := z.toNat) (by omega)
      refine Gives.same h (run_indexSlice hu hT h0 h1) ?_
      rw [hcl]
      exact (⟨_, _, rfl, by rw [Addr.add_block]; exact hb, by rw [Addr.add_block]; exact hA, k1, k2⟩ : RX w (Avoid c.X H ρ) H ρ (.vptr s (xs.getD z.toNat s.dflt)) true [_])
    split at ha
    · rename_i e cl sc ht
      have hu := slice_ty hΓ ht
      split at ha
      · rename_i o
        split at ha
        · rename_i el he
          obtain ⟨hf, ha⟩ := ite_some ha
          simp only [Option.some.injEq, Prod.mk.injEq, Bool.and_eq_true, decide_eq_true_eq] at ha
          obtain ⟨⟨h0, h1⟩, rfl, rfl⟩ := ha
          have := row (off := 0) (len := none) hu he hx (fits hf) h0 h1
          rwa [Nat.zero_add] at this
        · cases ha
      · rename_i o off len
        split at ha
        · rename_i el he
          obtain ⟨hf, ha⟩ := ite_some ha
          simp only [Option.some.injEq, Prod.mk.injEq, Bool.and_eq_true, decide_eq_true_eq] at ha
          obtain ⟨⟨h0, h1⟩, rfl, rfl⟩ := ha
          exact row (off := off) (len := some len) hu he hx (fits hf) h0 h1
        · cases ha
      · rename_i s xs
        obtain ⟨hf, ha⟩ := ite_some ha
        simp only [Option.some.injEq, Prod.mk.injEq, Bool.and_eq_true, decide_eq_true_eq] at ha
        obtain ⟨⟨h0, h1⟩, rfl, rfl⟩ := ha
        exact vrow hu hx (fits hf) h0 h1
      · rename_i s xs
        obtain ⟨hf, ha⟩ := ite_some ha
        simp only [Option.some.injEq, Prod.mk.injEq, Bool.and_eq_true, decide_eq_true_eq] at ha
        obtain ⟨⟨h0, h1⟩, rfl, rfl⟩ := ha
        obtain ⟨_, _, hr⟩ := (hx : ∃ ad, [xv] = [Value.slice ad xs.length xs.length] ∧ RepC w (Avoid c.X H ρ) (.slc s) xs [xv])
        exact vrow hu hr (fits hf) h0 h1
      · cases ha
    · rename_i len e cl sc ht
      have hu := array_ok hΓ ht
      split at ha
      · rename_i o p
        split at ha
        · rename_i m s xs hg
          obtain ⟨hf, ha⟩ := ite_some ha
          · simp only [Bool.and_eq_true, beq_iff_eq] at hf
            obtain ⟨hf, rfl⟩ := hf
            obtain ⟨ti, hT, hcl⟩ := fits hf
            simp only [Option.some.injEq, Prod.mk.injEq, Bool.and_eq_true, decide_eq_true_eq] at ha
            obtain ⟨⟨h0, h1⟩, rfl, rfl⟩ := ha
            obtain ⟨ad, rfl, hp⟩ := ptr_step h (hx : PtrR (ASt.obj H o) (ρ o) p [xv]) (i := z.toNat) (off := z.toNat * s.lay.cells) (l := s.lay) (by rw [hg]; exact arr_sub (by omega))
            refine Gives.same h (run_indexArray hu hT h0 h1) ?_
            rw [hcl, ← Sch.lay_cells]
            exact hp
        · cases ha
      · rename_i m s xs
        obtain ⟨hf, ha⟩ := ite_some ha
        · simp only [Bool.and_eq_true, beq_iff_eq] at hf
          obtain ⟨hf, rfl⟩ := hf
          obtain ⟨ti, hT, hcl⟩ := fits hf
          simp only [Option.some.injEq, Prod.mk.injEq, Bool.and_eq_true, decide_eq_true_eq] at ha
          obtain ⟨⟨h0, h1⟩, rfl, rfl⟩ := ha
          obtain ⟨ad, L, hcs, hb, hA, hr, hc⟩ := (hx : ∃ ad L, [xv] = [Value.pointer (some ad)] ∧ ad.block < w.heap.size ∧ ¬ Avoid c.X H ρ ad.block ∧ RepC w (Avoid c.X H ρ) (.arr m s) xs L ∧ CellsAt w ad L)
          simp only [List.cons.injEq, and_true] at hcs
          subst hcs
          obtain ⟨hm, hL⟩ := hr
          obtain ⟨k1, k2⟩ := at_mem hL hc (i := z.toNat) (by omega)
          refine Gives.same h (run_indexArray hu hT h0 h1) ?_
          rw [hcl]
          exact (⟨_, _, rfl, by rw [Addr.add_block]; exact hb, by rw [Addr.add_block]; exact hA, k1, k2⟩ : RX w (Avoid c.X H ρ) H ρ (.vptr s (xs.getD z.toNat s.dflt)) true [_])
      · cases ha
    · cases ha
  · cases ha

/-- An element. -/
theorem index_ok (hΓ : GamOk P Γ) (h : StOk c w H ρ) {t : TypeId} {x i v : AV} {xv iv : Value} (hx : RV w (Avoid c.X H ρ) H ρ x xv) (hi : RV w (Avoid c.X H ρ) H ρ i iv) (ha : aIndex Γ t x i = some (true, v)) :
    Gives P c w H ρ (Instr.index t xv iv) v [] := by
  unfold aIndex at ha
  split at ha
  · rename_i k y
    obtain ⟨rfl, _⟩ := RV.int hi
    simp only at ha
    generalize hz : toI k y = z at *
    split at ha
    · rename_i b
      split at ha
      · rename_i ht
        simp only [Option.some.injEq, Prod.mk.injEq, Bool.and_eq_true, decide_eq_true_eq] at ha
        obtain ⟨⟨h0, h1⟩, rfl⟩ := ha
        obtain ⟨rfl, _⟩ := RV.str hx
        have hty : P.underlying t = some .string := by
          simp only [Gam.sch, beq_iff_eq] at ht
          cases hg : Γ.at_ t with
          | none => simp [hg] at ht
          | some ti => simp only [hg, Option.bind_some] at ht; exact ((hΓ t ti hg).sch _ ht).1.2
        have hlt : z.toNat < b.length := by omega
        have hget : (⟨b.toArray⟩ : ByteArray)[z.toNat]? = some (b[z.toNat]'hlt) := by
          have hs : z.toNat < (⟨b.toArray⟩ : ByteArray).size := by simpa [ByteArray.size] using hlt
          rw [getElem?_pos (⟨b.toArray⟩ : ByteArray) z.toNat hs]
          simp [ByteArray.getElem_eq_getElem_data]
        refine Gives.same h (val := .int .u8 (b[z.toNat]).toNat) ?_ ?_
        · simp [Instr.index, asIntOf, run_underlying hty, h0, hget]
        · have e : b.getD z.toNat 0 = b[z.toNat] := by simp [List.getD, List.getElem?_eq_getElem hlt]
          rw [e]
          exact RV.mk_int (k := .u8) (a := b[z.toNat]) (by
            have := (b[z.toNat]).toNat_lt
            simp [Lit.wf, toI, IntKind.min, IntKind.max, IntKind.signed, IntKind.bits]; omega)
      · cases ha
    · rename_i m s xs
      split at ha
      · rename_i len e cl sc ht
        split at ha
        · rename_i ti hti
          split at ha
          · rename_i hf
            simp only [Bool.and_eq_true, beq_iff_eq] at hf
            obtain ⟨⟨hcl, hag⟩, rfl⟩ := hf
            simp only [Option.some.injEq, Prod.mk.injEq, Bool.and_eq_true, decide_eq_true_eq] at ha
            obtain ⟨⟨h0, h1⟩, rfl⟩ := ha
            have hu := array_ok hΓ ht
            have hT := hΓ e ti hti
            obtain ⟨cs, rfl, hm, hL⟩ := (hx.dat_ : ∃ cs, xv = .agg cs.toArray ∧ RepC w (Avoid c.X H ρ) (.arr m s) xs cs)
            have hlt : z.toNat < xs.length := by omega
            have hlen := RepL.length (fun x c => RepC.length s) hL
            have hel := RepL.at_ (fun x c => RepC.length s) hL (i := z.toNat) (x := xs.getD z.toNat s.dflt) (by simp [List.getD, List.getElem?_eq_getElem hlt])
            have hin : z.toNat * s.cells + s.cells ≤ cs.length := by
              have := Nat.mul_le_mul_right s.cells (show z.toNat + 1 ≤ xs.length by omega)
              rw [Nat.add_mul, Nat.one_mul] at this
              omega
            obtain ⟨val, hrun, hv⟩ := run_part (P := P) (Γ := Γ) (w := w) (H := H) (ρ := ρ) (A := Avoid c.X H ρ) hT (cs := cs) (off := z.toNat * s.cells) (v := .dat s (xs.getD z.toNat s.dflt)) hel hcl.symm hag.symm hin
            have hc : 0 ≤ z ∧ z < (m : Int) := ⟨h0, h1⟩
            refine Gives.same h ?_ hv
            simp [Instr.index, asIntOf, run_underlying hu, run_sizeOf hT, hc, hcl, hrun]
          · cases ha
        · cases ha
      · cases ha
    · cases ha
  · cases ha

/-- A store. -/
theorem store_ok (hΓ : GamOk P Γ) (h : StOk c w H ρ) {t : TypeId} {x u v : AV} {xv uv : Value} {U : Upd} (hx : RV w (Avoid c.X H ρ) H ρ x xv) (hu : RV w (Avoid c.X H ρ) H ρ u uv) (ha : aStore Γ t x u H = some (true, v, U)) :
    v = .dead ∧ ∃ w', (Instr.storeAt t xv uv).run P w = .ok () w' ∧ Tr c w H ρ w' (upd H U) ρ := by
  unfold aStore at ha
  cases hti : Γ.at_ t with
  | none => simp [hti] at ha
  | some ti =>
    simp only [hti] at ha
    split at ha
    · rename_i o p
      split at ha
      · rename_i hcond
        simp only [Bool.and_eq_true, beq_iff_eq] at hcond
        obtain ⟨hus, huc⟩ := hcond
        have hurx := RV.cells hus hu
        split at ha
        · rename_i ob hp
          simp only [Option.some.injEq, Prod.mk.injEq, true_and] at ha
          obtain ⟨rfl, rfl⟩ := ha
          obtain ⟨w', hrun, hT⟩ := put_in hΓ h hti hx hurx hus huc hp
          exact ⟨rfl, w', hrun, hT⟩
        · split at ha
          · rename_i s hsc
            split at ha
            · rename_i y V hy
              split at ha
              · cases ha
              · rename_i hno
                split at ha
                · rename_i ob hp
                  simp only [Option.some.injEq, Prod.mk.injEq, true_and] at ha
                  obtain ⟨rfl, rfl⟩ := ha
                  obtain ⟨rfl, T1, hrep, hoth⟩ := asPlain_ok h hurx hy
                  have hno' : o ∉ u.refs := by simpa using hno
                  have ho := hoth o hno'
                  have hp' : (ASt.obj (upd H (freezes H u)) o).put p (.dat s y) = some ob := by rw [ho]; exact hp
                  have hsl : (AV.dat s y).cells = ti.cells := by
                    have e1 := RepC.length s hrep
                    have e2 := hurx.len
                    rw [AV.lay_cells, huc] at e2
                    show s.cells = _
                    omega
                  obtain ⟨w', hrun, hT⟩ := put_in hΓ T1.ok hti (T1.rv hx) (u := .dat s y) (uv := uv) hrep rfl hsl hp'
                  refine ⟨rfl, w', hrun, ?_⟩
                  have e : upd H (freezes H u ++ [(o, ob)]) = (upd H (freezes H u)).set o ob := by simp [upd]
                  rw [e]
                  exact T1.trans hT
                · cases ha
            · cases ha
          · cases ha
      · cases ha
    · cases ha
end
end Go.AI
