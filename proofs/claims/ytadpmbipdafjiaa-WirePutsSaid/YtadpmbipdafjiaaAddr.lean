/- Addresses, and parts. -/
import Derived.Test.YtadpmbipdafjiaaCut
namespace Go.AI
open Go Go.RowKit

section
variable {P : Program} {Γ : Gam} {c : Ctx} {w : World} {H H' : List AObj} {ρ : Rho} {o : Nat} {cur : List AV} {a : Act}

theorem at_append {l' : Lay} {i : Nat} : ∀ {p : List Nat} {l : Lay} {off : Nat}, l.at_ p = some (off, l') → l.at_ (p ++ [i]) = (l'.sub i).map fun y => (off + y.1, y.2)
  | [], l, off, h => by
    simp only [Lay.at_, Option.some.injEq, Prod.mk.injEq] at h
    obtain ⟨rfl, rfl⟩ := h
    simp only [List.nil_append, Lay.at_]
    cases l.sub i <;> simp
  | j :: p, l, off, h => by
    simp only [Lay.at_, Option.bind_eq_some_iff, Option.map_eq_some_iff] at h
    obtain ⟨⟨o1, l1⟩, h1, ⟨o2, l2⟩, h2, he⟩ := h
    simp only [Prod.mk.injEq] at he
    obtain ⟨rfl, rfl⟩ := he
    have e := at_append (i := i) (h2 : l1.at_ p = some (o2, l2))
    simp only [List.cons_append, Lay.at_, h1, Option.bind_some, e]
    cases l2.sub i <;> simp [Nat.add_assoc]

theorem dead_get (p : List Nat) : AV.dead.get p = .dead := by
  induction p with
  | nil => rfl
  | cons i p ih => cases i <;> exact ih

/-- A pointer one step on. -/
theorem ptr_step (h : StOk c w H ρ) {o : Nat} {p : List Nat} {v : Value} {i off : Nat} {l : Lay} (hp : PtrR (ASt.obj H o) (ρ o) p [v]) (hl : ((ASt.obj H o).get p).lay.sub i = some (off, l)) :
    ∃ ad, v = .pointer (some ad) ∧ PtrR (ASt.obj H o) (ρ o) (p ++ [i]) [.pointer (some (ad.add off))] := by
  rcases hp with ⟨hg, _⟩ | ⟨hlv, g, C, off', l', hlay, hr, hcs⟩
  · rw [hg] at hl
    have : (AObj.get .gone p) = .dead := dead_get p
    rw [this] at hl
    cases i <;> simp [AV.lay, Lay.sub, Lay.comp] at hl
  · simp only [List.cons.injEq, and_true] at hcs
    refine ⟨_, hcs, .inr ⟨hlv, g, C, off' + off, l, ?_, hr, by rw [add_lit]⟩⟩
    obtain ⟨E, cur, K, Z, _, _, _, hrx, _⟩ := obj_in h hlv hr
    have hlay' := hlay
    rw [av_lay hlv] at hlay'
    have := (get_ok p _ hrx hlay').1
    rw [at_append hlay]
    have e0 : ((ASt.obj H o).get p).lay = l' := this
    rw [e0] at hl
    rw [hl]; rfl

theorem sub_comp {l l' : Lay} {i off : Nat} (h : l.comp i = some (off, l')) : l.sub i = some (off, l') := by
  cases l <;> first | exact h | (cases i <;> simp [Lay.comp] at h)

theorem fieldOf_ok (hΓ : GamOk P Γ) {t : TypeId} {f off : Nat} {ti : TI} (h : fieldOf Γ t f = some (off, ti)) :
    ∃ (gs : Array Field) (fd : Field), P.underlying t = some (.struct gs) ∧ gs[f]? = some fd ∧ fd.offset = off ∧ TIOk P Γ fd.type ti := by
  unfold fieldOf at h
  split at h
  · rename_i fs cl sc ht
    split at h
    · rename_i off' ft hf
      cases hg : Γ.at_ ft with
      | none => simp [hg] at h
      | some ti' =>
        simp only [hg, Option.map_some, Option.some.injEq, Prod.mk.injEq] at h
        obtain ⟨rfl, rfl⟩ := h
        obtain ⟨i, d, _, hu, _, gs, rfl, rfl⟩ := (hΓ t _ ht).info
        rw [List.getElem?_map] at hf
        cases hfd : gs.toList[f]? with
        | none => simp [hfd] at hf
        | some fd =>
          simp only [hfd, Option.map_some, Option.some.injEq, Prod.mk.injEq] at hf
          obtain ⟨rfl, rfl⟩ := hf
          exact ⟨gs, fd, hu, by simpa using hfd, rfl, hΓ _ _ hg⟩
    · cases h
  · cases h

/-- A field's address. -/
theorem fieldAddr_ok (hΓ : GamOk P Γ) (h : StOk c w H ρ) {t : TypeId} {x v : AV} {f : Nat} {xv : Value} (hx : RV w (Avoid c.X H ρ) H ρ x xv) (ha : aFieldAddr Γ t x f H = some v) :
    Gives P c w H ρ (Instr.fieldAt t xv f) v [] := by
  unfold aFieldAddr at ha
  split at ha
  · rename_i off ti hf
    split at ha
    · cases ha
    rename_i hpos
    obtain ⟨gs, fd, hu, hg, rfl, hT⟩ := fieldOf_ok hΓ hf
    have hrun : ∀ ad, (Instr.fieldAt t (.pointer (some ad)) f).run P w = .ok (.pointer (some (ad.add fd.offset))) w := by
      intro ad
      simp [Instr.fieldAt, run_underlying hu, hg, Instr.sureAddr, fieldPlace, run_sizeOf hT, hpos]
    split at ha
    · rename_i o p
      split at ha
      · rename_i hl
        simp only [Option.some.injEq] at ha
        subst ha
        have hx' : PtrR (ASt.obj H o) (ρ o) p [xv] := hx
        cases hc : ((ASt.obj H o).get p).lay.comp f with
        | none => simp [hc] at hl
        | some y =>
          obtain ⟨o1, l1⟩ := y
          simp only [hc, Option.map_some, beq_iff_eq, Option.some.injEq] at hl
          subst hl
          obtain ⟨ad, rfl, hp⟩ := ptr_step h hx' (sub_comp hc)
          exact Gives.same h (hrun ad) hp
      · cases ha
    · rename_i s y
      split at ha
      · rename_i s' y' hc
        split at ha
        · rename_i hl
          simp only [Option.some.injEq] at ha
          subst ha
          obtain ⟨ad, L, hcs, hb, hA, hr, hcl⟩ := (hx : ∃ ad L, [xv] = [Value.pointer (some ad)] ∧ ad.block < w.heap.size ∧ ¬ Avoid c.X H ρ ad.block ∧ RepC w (Avoid c.X H ρ) s y L ∧ CellsAt w ad L)
          simp only [List.cons.injEq, and_true] at hcs
          subst hcs
          cases hcm : s.lay.comp f with
          | none => simp [hcm] at hl
          | some z =>
            obtain ⟨o1, l1⟩ := z
            simp only [hcm, Option.map_some, beq_iff_eq, Option.some.injEq] at hl
            subst hl
            obtain ⟨_, g2, _⟩ := comp_ok (H := H) (ρ := ρ) f (.dat s y) (hr : RX w (Avoid c.X H ρ) H ρ (.dat s y) true L) hcm
            rw [hc] at g2
            refine Gives.same h (hrun ad) ?_
            refine (⟨ad.add fd.offset, _, rfl, by rw [Addr.add_block]; exact hb, by rw [Addr.add_block]; exact hA, g2, ?_⟩ : RX w (Avoid c.X H ρ) H ρ (.vptr s' y') true [_])
            intro j u hu
            rw [addr_add_add]
            rw [List.getElem?_take] at hu
            split at hu
            · rw [List.getElem?_drop] at hu; exact hcl _ _ hu
            · cases hu
        · cases ha
      · cases ha
    · cases ha
  · cases ha

theorem run_part {t : TypeId} {ti : TI} (hT : TIOk P Γ t ti) {cs : List Value} {off : Nat} {v : AV} {A : Nat → Prop} (hv : RX w A H ρ v true ((cs.drop off).take v.cells)) (hc : v.cells = ti.cells) (hag : v.agg = ti.agg) (hin : off + v.cells ≤ cs.length) :
    ∃ val, (part t cs.toArray off).run P w = .ok val w ∧ RV w A H ρ v val := by
  refine ⟨_, ?_, rv_valOf hv⟩
  unfold part
  rw [Sem.run_bind, run_isAgg hT w]
  simp only [Result.andThen_ok, ← hag]
  cases ha : v.agg with
  | true =>
    simp [run_sizeOf hT, ← hc, valOf]
  | false =>
    have h1 := hT.one (by rw [← hag]; exact ha)
    rw [← hc] at h1
    rw [h1] at hin ⊢
    have : cs[off]? = some cs[off] := List.getElem?_eq_getElem (by omega)
    have e : (cs.drop off).take 1 = [cs[off]] := by rw [List.drop_eq_getElem_cons (by omega)]; rfl
    rw [e]
    simp [this, valOf]

theorem comp_agg {l : Lay} {k : Nat} {x : Nat × Lay} (h : l.comp k = some x) : l.agg = true := by
  cases l <;> first | rfl | (cases k <;> simp [Lay.comp] at h)

/-- A field of a struct. -/
theorem field_ok (hΓ : GamOk P Γ) (h : StOk c w H ρ) {t : TypeId} {x v : AV} {f : Nat} {xv : Value} (hx : RV w (Avoid c.X H ρ) H ρ x xv) (ha : aField Γ t x f = some v) :
    Gives P c w H ρ (Instr.field t xv f) v [] := by
  unfold aField at ha
  split at ha
  · rename_i off ti hf
    simp only at ha
    split at ha
    · rename_i hcond
      simp only [Option.some.injEq] at ha
      simp only [Bool.and_eq_true, beq_iff_eq] at hcond
      obtain ⟨⟨⟨hl, hs⟩, hcl⟩, hagg⟩ := hcond
      subst ha
      obtain ⟨gs, fd, hu, hg, rfl, hT⟩ := fieldOf_ok hΓ hf
      cases hc : x.lay.comp f with
      | none => simp [hc] at hl
      | some y =>
        obtain ⟨o1, l1⟩ := y
        simp only [hc, Option.map_some, Option.some.injEq] at hl
        subst hl
        have hag : x.agg = true := by rw [← AV.lay_agg]; exact comp_agg hc
        have hx' : ∃ cs, xv = .agg cs.toArray ∧ RX w (Avoid c.X H ρ) H ρ x true cs := by
          unfold RV at hx
          split at hx
          · simp [AV.agg] at hag
          · unfold RV1 at hx
            split at hx
            · simp [AV.agg] at hag
            · exact hx.elim
            · rw [if_pos hag] at hx; exact hx
        obtain ⟨cs, rfl, hr⟩ := hx'
        obtain ⟨g1, g2, g3⟩ := comp_ok f x hr hc
        have e1 : (x.comp f).cells = l1.cells := by rw [← AV.lay_cells, g1]
        rw [← e1] at g2 g3
        obtain ⟨val, hrun, hv⟩ := run_part hT g2 hcl hagg g3
        refine Gives.same h ?_ hv
        have hg' : gs[f]? = some fd := hg
        simp [Instr.field, run_underlying hu, hg', asAgg, hrun]
    · cases ha
  · cases ha
end
end Go.AI
