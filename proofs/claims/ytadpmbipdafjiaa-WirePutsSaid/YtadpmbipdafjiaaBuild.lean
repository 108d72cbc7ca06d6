/- Composite values that are built. -/
import Derived.Test.YtadpmbipdafjiaaPlain
namespace Go.AI
open Go Go.RowKit

section
variable {P : Program} {Γ : Gam} {c : Ctx} {w : World} {H H' : List AObj} {ρ : Rho} {o : Nat} {cur : List AV} {a : Act}

theorem fill_one (place : Nat → Option (Nat × Nat)) (cells : Array Value) (i : Nat) (v : Value) (rest : List (Nat × Value)) {off size : Nat} (hp : place i = some (off, size)) (hs : v.cells.toList.length = size) (hf : off + size ≤ cells.size) :
    Instr.fill place cells ((i, v) :: rest) = Instr.fill place (splice cells off v.cells.toList) rest := by
  have hs' : v.cells.size = size := by simpa using hs
  rw [Instr.fill, hp]
  simp only
  rw [if_neg (by simp [hs']; omega)]
  congr 1
  have := fold_splice off v.cells.toList 0 cells (by omega)
  rw [← Array.foldl_toList, Array.toList_zipIdx]
  exact this

/-- Operands that are put among the elements of a slice or an array. -/
theorem bldSlice_ok (h : StOk c w H ρ) (hfr : FrOk w (Avoid c.X H ρ) H ρ cur a.tmps) {s : Sch} : ∀ (parts : List (Nat × Operand)) (xs : List s.T) (l : List Nat) {ys : List s.T} {U : Upd} {cells : Array Value},
    StOk c w (upd H (l.map fun o => (o, freezeObj (ASt.obj H o)))) ρ → RepL (RepC w (Avoid c.X (upd H (l.map fun o => (o, freezeObj (ASt.obj H o)))) ρ) s) xs cells.toList →
    Tr c w H ρ w (upd H (l.map fun o => (o, freezeObj (ASt.obj H o)))) ρ →
    bldSlice s cur H parts xs (l.map fun o => (o, freezeObj (ASt.obj H o))) = some (ys, U) →
    ∃ (cells' : Array Value) (l' : List Nat), U = (l'.map fun o => (o, freezeObj (ASt.obj H o))) ∧ Instr.fill (fun i => some (i * s.cells, s.cells)) cells (parts.map fun x => (x.1, a.eval x.2)) = some cells' ∧
      RepL (RepC w (Avoid c.X (upd H U) ρ) s) ys cells'.toList ∧ ys.length = xs.length ∧ Tr c w H ρ w (upd H U) ρ
  | [], xs, l, ys, U, cells, h1, hL, hT, hb => by
    simp only [bldSlice, Option.some.injEq, Prod.mk.injEq] at hb
    obtain ⟨rfl, rfl⟩ := hb
    exact ⟨cells, l, rfl, by simp [Instr.fill], hL, rfl, hT⟩
  | (i, x) :: r, xs, l, ys, U, cells, h1, hL, hT, hb => by
    simp only [bldSlice] at hb
    split at hb
    · rename_i y V hy
      split at hb
      · rename_i hi
        have hv := opnd_ok hfr x
        have hs : (opnd cur x).stands = true := by
          unfold asPlain at hy
          cases hd : toDat false H s (opnd cur x) with
          | none => simp [hd] at hy
          | some z =>
            have : ∀ (v : AV) (s : Sch) (z : s.T), toDat false H s v = some z → v.stands = true := by
              intro v
              induction v with
              | pr a b iha ihb =>
                intro s z hz
                cases s <;> simp only [toDat, reduceCtorEq] at hz
                split at hz
                · rename_i y1 z1 e1 e2
                  simp [AV.stands, iha _ _ e1, ihb _ _ e2]
                · cases hz
              | tup a _ => intro s z hz; cases s <;> simp [toDat] at hz
              | dead => intro s z hz; cases s <;> simp [toDat] at hz
              | _ => intro s z _; rfl
            exact this _ _ _ hd
        have hcell := RV.cells hs hv
        obtain ⟨hV, _, _, _⟩ := asPlain_ok h hcell hy
        subst hV
        have hq : ∀ o, freezeObj (ASt.obj (upd H (l.map fun o => (o, freezeObj (ASt.obj H o)))) o) = freezeObj (ASt.obj H o) := (Tr.freezes h l H h (fun _ => rfl)).2.1
        obtain ⟨b1, _, b3, b4, _⟩ := Tr.freezes h (opnd cur x).refs _ h1 hq
        have hUV : (l.map fun o => (o, freezeObj (ASt.obj H o))) ++ freezes H (opnd cur x) = ((l ++ (opnd cur x).refs).map fun o => (o, freezeObj (ASt.obj H o))) := by
          simp [freezes]
        have hup : upd H ((l ++ (opnd cur x).refs).map fun o => (o, freezeObj (ASt.obj H o))) = upd (upd H (l.map fun o => (o, freezeObj (ASt.obj H o)))) ((opnd cur x).refs.map fun o => (o, freezeObj (ASt.obj H o))) := by
          simp [upd, List.map_append]
        rw [hUV] at hb
        have hTT := hT.trans b1
        rw [← hup] at hTT b1
        -- the value in the new state
        have hcon : RepC w (Avoid c.X (upd H ((l ++ (opnd cur x).refs).map fun o => (o, freezeObj (ASt.obj H o)))) ρ) s y (a.eval x).cells.toList := by
          unfold asPlain at hy
          cases hd : toDat false H s (opnd cur x) with
          | none => simp [hd] at hy
          | some z =>
            simp only [hd, Option.map_some, Option.some.injEq, Prod.mk.injEq] at hy
            obtain ⟨rfl, _⟩ := hy
            obtain ⟨_, _, c3, c4, _⟩ := Tr.freezes h (l ++ (opnd cur x).refs) H h (fun _ => rfl)
            exact toDat_ok h false _ s hcell hd (lets_frozen h (toDat_rows _ s hd) hTT (fun o ho => c4 o (.inl (by simp [ho]))) (avoid_freezes c3 (fun o ho => c4 o (.inl ho))))
        have hlen := RepL.length (fun x c => RepC.length s) hL
        have hylen := RepC.length s hcon
        have hfit : i * s.cells + s.cells ≤ cells.size := by
          have e : cells.size = xs.length * s.cells := by simpa using hlen
          have : (i + 1) * s.cells ≤ xs.length * s.cells := Nat.mul_le_mul_right _ hi
          rw [Nat.add_mul] at this; omega
        obtain ⟨cells', l', e1, e2, e3, e4, e5⟩ := bldSlice_ok h hfr r (xs.set i y) (l ++ (opnd cur x).refs) (cells := splice cells (i * s.cells) (a.eval x).cells.toList) hTT.ok (by
          have hL' := RepL.mono (fun x c => b1.rep) hL
          have := RepL.set (fun x c => RepC.length s) hL' hi hcon
          simp only [splice, hylen]
          exact this) hTT hb
        refine ⟨cells', l', e1, ?_, e3, by rw [e4]; simp, e5⟩
        rw [List.map_cons, fill_one _ _ _ _ _ rfl hylen hfit]
        exact e2
      · cases hb
    · cases hb

theorem zeroField_ok (A : Nat → Prop) {t : TypeId} {z : AV} {L : List Value} (hz : zeroField Γ t = some (z, L)) : RX w A H ρ z true L ∧ z.stands = true := by
  unfold zeroField at hz
  split at hz
  · simp only [Option.some.injEq, Prod.mk.injEq] at hz
    obtain ⟨rfl, rfl⟩ := hz
    exact ⟨rfl, rfl⟩
  · rename_i ti _ _
    cases hs : ti.sch with
    | none => simp [hs] at hz
    | some s =>
      simp only [hs, Option.map_some, Option.some.injEq, Prod.mk.injEq] at hz
      obtain ⟨rfl, rfl⟩ := hz
      exact ⟨RepC.zero w A s, rfl⟩
  · cases hz
theorem zeroStruct_ok (A : Nat → Prop) : ∀ (fs : List (Nat × TypeId)) {z : AV} {L : List Value}, zeroStruct Γ fs = some (z, L) → RX w A H ρ z true L ∧ z.stands = true ∧ z.agg = true ∧ ∀ x ∈ fs, ∃ ti, Γ.at_ x.2 = some ti
  | [], z, L, hz => by
    simp only [zeroStruct, Option.some.injEq, Prod.mk.injEq] at hz
    obtain ⟨rfl, rfl⟩ := hz
    exact ⟨rfl, rfl, rfl, fun x hx => by cases hx⟩
  | (off, t) :: r, z, L, hz => by
    simp only [zeroStruct] at hz
    split at hz
    · rename_i u L1 v L2 h1 h2
      simp only [Option.some.injEq, Prod.mk.injEq] at hz
      obtain ⟨rfl, rfl⟩ := hz
      obtain ⟨a1, a2⟩ := zeroField_ok (w := w) (H := H) (ρ := ρ) A h1
      obtain ⟨b1, b2, b3, b4⟩ := zeroStruct_ok A r h2
      refine ⟨mkPr_rx a1 b1, mkPr_stands _ _ a2 b2, mkPr_agg _ _, fun x hx => ?_⟩
      rcases List.mem_cons.1 hx with rfl | hx
      · unfold zeroField at h1
        cases hg : Γ.at_ t with
        | none => simp [hg] at h1
        | some ti => exact ⟨ti, rfl⟩
      · exact b4 x hx
    · cases hz

/-- The parts of a struct that is built. -/
theorem bldStruct_ok (hΓ : GamOk P Γ) (hfr : FrOk w (Avoid c.X H ρ) H ρ cur a.tmps) {fs : List (Nat × TypeId)} (place : Nat → Option (Nat × Nat))
    (hpl : ∀ k off t ti, fs[k]? = some (off, t) → Γ.at_ t = some ti → place k = some (off, ti.cells)) :
    ∀ (parts : List (Nat × Operand)) (v : AV) {z : AV} {cells : Array Value}, RX w (Avoid c.X H ρ) H ρ v true cells.toList → v.stands = true → bldStruct Γ cur fs parts v = some z →
    ∃ cells' : Array Value, Instr.fill place cells (parts.map fun x => (x.1, a.eval x.2)) = some cells' ∧ RX w (Avoid c.X H ρ) H ρ z true cells'.toList ∧ z.stands = true ∧ z.lay = v.lay
  | [], v, z, cells, hv, hs, hb => by
    simp only [bldStruct, Option.some.injEq] at hb
    subst hb
    exact ⟨cells, by simp [Instr.fill], hv, hs, rfl⟩
  | (k, x) :: r, v, z, cells, hv, hs, hb => by
    simp only [bldStruct] at hb
    split at hb
    · rename_i off t o l hk hl
      split at hb
      · rename_i ti hti
        split at hb
        · rename_i hcond
          obtain ⟨rfl, hus, hul, hlc⟩ := hcond
          simp only [Option.bind_eq_some_iff] at hb
          obtain ⟨v', hv', hb⟩ := hb
          have hu := RV.cells hus (opnd_ok hfr x)
          obtain ⟨_, _, g3⟩ := comp_ok k v hv hl
          obtain ⟨m1, m2, m3⟩ := setComp_ok k v _ hv hl hv' hul hus hs hu
          have hulen := hu.len
          rw [hul, hlc] at hulen
          obtain ⟨cells', e1, e2, e3, e4⟩ := bldStruct_ok hΓ hfr place hpl r v' (cells := splice cells o (a.eval x).cells.toList) (by simpa [splice] using m3) m2 hb
          refine ⟨cells', ?_, e2, e3, e4.trans m1⟩
          rw [List.map_cons, fill_one _ _ _ _ _ (hpl k o t ti hk hti) hulen (by rw [← hlc]; simpa using g3)]
          exact e1
        · cases hb
      · cases hb
    · cases hb

theorem places_ok (hΓ : GamOk P Γ) : ∀ (fs : List Field), (∀ f : Field, f ∈ fs → ∃ ti, Γ.at_ f.type = some ti) → ∃ ps : List (Nat × Nat), fs.mapM (fun f => (P.info? f.type).map fun i => (f.offset, i.size)) = some ps ∧
      ∀ (k : Nat) (f : Field) (ti : TI), fs[k]? = some f → Γ.at_ f.type = some ti → ps[k]? = some (f.offset, ti.cells)
  | [], _ => ⟨[], by simp, fun k f ti hk => by simp at hk⟩
  | f :: fs, hall => by
    obtain ⟨ps, h1, h2⟩ := places_ok hΓ fs (fun f hf => hall f (List.mem_cons_of_mem _ hf))
    obtain ⟨ti, hti⟩ := hall f List.mem_cons_self
    obtain ⟨i, d, hi, _, hs, _⟩ := (hΓ _ _ hti).info
    refine ⟨(f.offset, ti.cells) :: ps, ?_, fun k g tg hk hg => ?_⟩
    · simp [List.mapM_cons, hi, hs, h1]
    · cases k with
      | zero =>
        simp only [List.getElem?_cons_zero, Option.some.injEq] at hk
        subst hk
        rw [hti] at hg; cases hg; rfl
      | succ k => simpa using h2 k g tg (by simpa using hk) hg

theorem build_struct_ok (hΓ : GamOk P Γ) (h : StOk c w H ρ) (hfr : FrOk w (Avoid c.X H ρ) H ρ cur a.tmps) {t : TypeId} {fs : List (Nat × TypeId)} {cl : Nat} {sc : Option Sch} {parts : Array (Nat × Operand)} {z v : AV} {L : List Value}
    (ht : Γ.at_ t = some ⟨.struct fs, cl, sc⟩) (hz : zeroStruct Γ fs = some (z, L)) (hb : bldStruct Γ cur fs parts.toList z = some v) :
    Gives P c w H ρ (Instr.build t (parts.map fun (i, x) => (i, a.eval x))) v [] := by
  have hT := hΓ t _ ht
  obtain ⟨i, d, hi, hu, hsz, gs, rfl, hfs⟩ := hT.info
  obtain ⟨i', zv, hi', hzv, hzc⟩ := hT.zero fs z L rfl hz
  rw [hi] at hi'; cases hi'
  obtain ⟨z1, z2, z3, z4⟩ := zeroStruct_ok (w := w) (H := H) (ρ := ρ) (Avoid c.X H ρ) fs hz
  obtain ⟨ps, p1, p2⟩ := places_ok hΓ gs.toList (fun f hf => z4 (f.offset, f.type) (by rw [hfs]; exact List.mem_map.2 ⟨f, hf, rfl⟩))
  obtain ⟨cells', e1, e2, e3, e4⟩ := bldStruct_ok hΓ hfr (ps.toArray[·]?) (fun k off t ti hk hti => by
    rw [hfs, List.getElem?_map] at hk
    cases hg : gs.toList[k]? with
    | none => simp [hg] at hk
    | some f =>
      simp only [hg, Option.map_some, Option.some.injEq, Prod.mk.injEq] at hk
      obtain ⟨rfl, rfl⟩ := hk
      simpa using p2 k f ti hg hti) parts.toList z (cells := zv.cells) (by rw [hzc]; exact z1) z2 hb
  have hag : v.agg = true := by rw [← AV.lay_agg, e4, AV.lay_agg]; exact z3
  refine Gives.same h (val := .agg cells') ?_ (by simpa using RV.agg_ hag e2)
  refine run_build w t _ cells' ?_
  unfold Program.built
  simp only [hi, hu, hzv, p1]
  have hparts : (parts.map fun (i, x) => (i, a.eval x)).toList = parts.toList.map fun x => (x.1, a.eval x.2) := by simp
  rw [hparts]; exact e1

theorem build_array_ok (hΓ : GamOk P Γ) (h : StOk c w H ρ) (hfr : FrOk w (Avoid c.X H ρ) H ρ cur a.tmps) {t e : TypeId} {n cl : Nat} {sc : Option Sch} {s : Sch} {parts : Array (Nat × Operand)} {ys : List s.T} {U : Upd}
    (ht : Γ.at_ t = some ⟨.array n e, cl, sc⟩) (hsc : sc = some (.arr n s)) (hb : bldSlice s cur H parts.toList (List.replicate n s.dflt) [] = some (ys, U)) :
    Gives P c w H ρ (Instr.build t (parts.map fun (i, x) => (i, a.eval x))) (.dat (.arr n s) ys) U := by
  have hT := hΓ t _ ht
  obtain ⟨i, d, hi, hu, hsz, hk⟩ := hT.info
  have hd : d = .array n e := hk
  subst hd
  obtain ⟨⟨i', zv, hi', hzv, hzc, _⟩, e', hu', he'⟩ := (hT.sch _ hsc).1
  rw [hi] at hi'; cases hi'
  rw [hu] at hu'; cases hu'
  obtain ⟨ie, _, hie, _, _, hies, _⟩ := SchOk.info he'
  have hz0 := RepC.zero w (Avoid c.X H ρ) (.arr n s)
  obtain ⟨cells', l', e1, e2, e3, e4, e5⟩ := bldSlice_ok (a := a) h hfr parts.toList (List.replicate n s.dflt) [] (cells := zv.cells) (U := U) h (by rw [hzc]; exact hz0.2) (Tr.refl h) hb
  refine ⟨.agg cells', w, ρ, ?_, ?_, e5⟩
  · refine run_build w t _ cells' ?_
    unfold Program.built
    simp only [hi, hu, hzv, hie]
    have hparts : (parts.map fun (i, x) => (i, a.eval x)).toList = parts.toList.map fun x => (x.1, a.eval x.2) := by simp
    rw [hparts, hies]; exact e2
  · have : RX w (Avoid c.X (upd H U) ρ) (upd H U) ρ (.dat (.arr n s) ys) true cells'.toList := (⟨by rw [e4]; simp, e3⟩ : RepC w (Avoid c.X (upd H U) ρ) (.arr n s) ys cells'.toList)
    simpa using RV.agg_ (v := .dat (.arr n s) ys) rfl this
end
end Go.AI
