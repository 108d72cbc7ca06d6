/- Composite values that are built. -/
import Derived.Test.YtaoimnfmhdmkmaaA2
import Derived.Great.BuildSlice
import Derived.Laws.MakeOwn
import Derived.Lib.ConvBytes
import Derived.Laws.BytesString
import Derived.Laws.BytesArg
import Derived.MapKept
import Derived.OrdersIn
import Derived.TacticsIn
import Derived.LoopNIn
import Derived.Laws.NewFold
noncomputable section
namespace Go.AI
open Go Go.RowKit

section
variable {P : Program} {Γ : Gam} {c : Ctx P} {w : World} {H H' : List AObj} {ρ : Rho} {o : Nat} {cur : List AV} {a : Act}

theorem fill_one (place : Nat → Option (Nat × Nat)) (cells : Array Value) (i : Nat) (v : Value) (rest : List (Nat × Value)) {off size : Nat} (hp : place i = some (off, size)) (hs : v.cells.toList.length = size) (hf : off + size ≤ cells.size) :
    Instr.fill place cells ((i, v) :: rest) = Instr.fill place (splice cells off v.cells.toList) rest := by
  have hs' : v.cells.size = size := by simpa using hs
  rw [Instr.fill, hp]
  simp only
  rw [if_neg (by simp [hs']; omega)]
  congr 1
  have := fold_splice off v.cells.toList 0 cells (by omega)
  rw [← Array.foldl_toList, Array.toList_zipIdx]
  exact this

/-- Operands that are put among the elements of a slice or an array. -/
theorem bldSlice_ok (h : StOk c w H ρ) (hfr : FrOk w (Avoid c.X H ρ) H ρ cur a.tmps) {s : Sch} : ∀ (parts : List (Nat × Operand)) (xs : List s.T) (l : List Nat) {ys : List s.T} {U : Upd} {cells : Array Value},
    StOk c w (upd H (l.map fun o => (o, freezeObj (ASt.obj H o)))) ρ → RepL (RepC w (Avoid c.X (upd H (l.map fun o => (o, freezeObj (ASt.obj H o)))) ρ) s) xs cells.toList →
    Tr c w H ρ w (upd H (l.map fun o => (o, freezeObj (ASt.obj H o)))) ρ →
    bldSlice s cur H parts xs (l.map fun o => (o, freezeObj (ASt.obj H o))) = some (ys, U) →
    ∃ (cells' : Array Value) (l' : List Nat), U = (l'.map fun o => (o, freezeObj (ASt.obj H o))) ∧ Instr.fill (fun i => some (i * s.cells, s.cells)) cells (parts.map fun x => (x.1, a.eval x.2)) = some cells' ∧
      RepL (RepC w (Avoid c.X (upd H U) ρ) s) ys cells'.toList ∧ ys.length = xs.length ∧ Tr c w H ρ w (upd H U) ρ
  | [], xs, l, ys, U, cells, h1, hL, hT, hb => by
    simp only [bldSlice, Option.some.injEq, Prod.mk.injEq] at hb
    obtain ⟨rfl, rfl⟩ := hb
    exact ⟨cells, l, rfl, by simp [Instr.fill], hL, rfl, hT⟩
  | (i, x) :: r, xs, l, ys, U, cells, h1, hL, hT, hb => by
    simp only [bldSlice] at hb
    split at hb
    · rename_i y V hy
      split at hb
      · rename_i hi
        have hv := opnd_ok hfr x
        have hs : (opnd cur x).stands = true := by
          unfold asPlain at hy
          cases hd : toDat false H s (opnd cur x) with
          | none => simp [hd] at hy
          | some z =>
            have : ∀ (v : AV) (s : Sch) (z : s.T), toDat false H s v = some z → v.stands = true := by
              intro v
              induction v with
              | pr a b iha ihb =>
                intro s z hz
                cases s <;> simp only [toDat, reduceCtorEq] at hz
                split at hz
                · rename_i y1 z1 e1 e2
                  simp [AV.stands, iha _ _ e1, ihb _ _ e2]
                · cases hz
              | tup a _ => intro s z hz; cases s <;> simp [toDat] at hz
              | dead => intro s z hz; cases s <;> simp [toDat] at hz
              | _ => intro s z _; rfl
            exact this _ _ _ hd
        have hcell := RV.cells hs hv
        obtain ⟨hV, _, _, _⟩ := asPlain_ok h hcell hy
        subst hV
        have hq : ∀ o, freezeObj (ASt.obj (upd H (l.map fun o => (o, freezeObj (ASt.obj H o)))) o) = freezeObj (ASt.obj H o) := (Tr.freezes h l H h (fun _ => rfl)).2.1
        obtain ⟨b1, _, b3, b4, _⟩ := Tr.freezes h (opnd cur x).refs _ h1 hq
        have hUV : (l.map fun o => (o, freezeObj (ASt.obj H o))) ++ freezes H (opnd cur x) = ((l ++ (opnd cur x).refs).map fun o => (o, freezeObj (ASt.obj H o))) := by
          simp [freezes]
        have hup : upd H ((l ++ (opnd cur x).refs).map fun o => (o, freezeObj (ASt.obj H o))) = upd (upd H (l.map fun o => (o, freezeObj (ASt.obj H o)))) ((opnd cur x).refs.map fun o => (o, freezeObj (ASt.obj H o))) := by
          simp [upd, List.map_append]
        rw [hUV] at hb
        have hTT := hT.trans b1
        rw [← hup] at hTT b1
        -- the value in the new state
        have hcon : RepC w (Avoid c.X (upd H ((l ++ (opnd cur x).refs).map fun o => (o, freezeObj (ASt.obj H o)))) ρ) s y (a.eval x).cells.toList := by
          unfold asPlain at hy
          cases hd : toDat false H s (opnd cur x) with
          | none => simp [hd] at hy
          | some z =>
            simp only [hd, Option.map_some, Option.some.injEq, Prod.mk.injEq] at hy
            obtain ⟨rfl, _⟩ := hy
            obtain ⟨_, _, c3, c4, _⟩ := Tr.freezes h (l ++ (opnd cur x).refs) H h (fun _ => rfl)
            exact toDat_ok h false _ s hcell hd (lets_frozen h (toDat_rows _ s hd) hTT (fun o ho => c4 o (.inl (by simp [ho]))) (avoid_freezes c3 (fun o ho => c4 o (.inl ho))))
        have hlen := RepL.length (fun x c => RepC.length s) hL
        have hylen := RepC.length s hcon
        have hfit : i * s.cells + s.cells ≤ cells.size := by
          have e : cells.size = xs.length * s.cells := by simpa using hlen
          have : (i + 1) * s.cells ≤ xs.length * s.cells := Nat.mul_le_mul_right _ hi
          rw [Nat.add_mul] at this; omega
        obtain ⟨cells', l', e1, e2, e3, e4, e5⟩ := bldSlice_ok h hfr r (xs.set i y) (l ++ (opnd cur x).refs) (cells := splice cells (i * s.cells) (a.eval x).cells.toList) hTT.ok (by
          have hL' := RepL.mono (fun x c => b1.rep) hL
          have := RepL.set (fun x c => RepC.length s) hL' hi hcon
          simp only [splice, hylen]
          exact this) hTT hb
        refine ⟨cells', l', e1, ?_, e3, by rw [e4]; simp, e5⟩
        rw [List.map_cons, fill_one _ _ _ _ _ rfl hylen hfit]
        exact e2
      · cases hb
    · cases hb

theorem zeroField_ok (A : Nat → Prop) {n : Bool} {t : TypeId} {z : AV} {L : List Value} (hz : zeroField Γ n t = some (z, L)) : RX w A H ρ z true L ∧ z.stands = true := by
  unfold zeroField at hz
  split at hz
  · simp only [Option.some.injEq, Prod.mk.injEq] at hz
    obtain ⟨rfl, rfl⟩ := hz
    exact ⟨rfl, rfl⟩
  · simp only [Option.some.injEq, Prod.mk.injEq] at hz
    obtain ⟨rfl, rfl⟩ := hz
    exact ⟨rfl, rfl⟩
  · simp only [Option.some.injEq, Prod.mk.injEq] at hz
    obtain ⟨rfl, rfl⟩ := hz
    exact ⟨rfl, rfl⟩
  · rename_i ti _ _ _ _
    cases hs : ti.sch with
    | none => simp [hs] at hz
    | some s =>
      simp only [hs, Option.map_some, Option.some.injEq] at hz
      cases hn : n && s.isSlc with
      | true =>
        rw [hn] at hz
        simp only [cond_true, Prod.mk.injEq] at hz
        obtain ⟨rfl, rfl⟩ := hz
        exact ⟨rfl, rfl⟩
      | false =>
        rw [hn] at hz
        simp only [cond_false, Prod.mk.injEq] at hz
        obtain ⟨rfl, rfl⟩ := hz
        exact ⟨RepC.zero w A s, rfl⟩
  · cases hz
theorem zeroStructN_ok (A : Nat → Prop) {n : Bool} : ∀ (fs : List (Nat × TypeId)) {z : AV} {L : List Value}, zeroStructN Γ n fs = some (z, L) → RX w A H ρ z true L ∧ z.stands = true ∧ z.agg = true ∧ ∀ x ∈ fs, ∃ ti, Γ.at_ x.2 = some ti
  | [], z, L, hz => by
    simp only [zeroStructN, Option.some.injEq, Prod.mk.injEq] at hz
    obtain ⟨rfl, rfl⟩ := hz
    exact ⟨rfl, rfl, rfl, fun x hx => by cases hx⟩
  | (off, t) :: r, z, L, hz => by
    simp only [zeroStructN] at hz
    split at hz
    · rename_i u L1 v L2 h1 h2
      simp only [Option.some.injEq, Prod.mk.injEq] at hz
      obtain ⟨rfl, rfl⟩ := hz
      obtain ⟨a1, a2⟩ := zeroField_ok (w := w) (H := H) (ρ := ρ) A h1
      obtain ⟨b1, b2, b3, b4⟩ := zeroStructN_ok A r h2
      refine ⟨mkPr_rx a1 b1, mkPr_stands _ _ a2 b2, mkPr_agg _ _, fun x hx => ?_⟩
      rcases List.mem_cons.1 hx with rfl | hx
      · unfold zeroField at h1
        cases hg : Γ.at_ t with
        | none => simp [hg] at h1
        | some ti => exact ⟨ti, rfl⟩
      · exact b4 x hx
    · cases hz

theorem zeroStruct_ok (A : Nat → Prop) (fs : List (Nat × TypeId)) {z : AV} {L : List Value} (h : zeroStruct Γ fs = some (z, L)) : RX w A H ρ z true L ∧ z.stands = true ∧ z.agg = true ∧ ∀ x ∈ fs, ∃ ti, Γ.at_ x.2 = some ti := zeroStructN_ok A fs h

/-- The parts of a struct that is built. -/
theorem bldStruct_ok (hΓ : GamOk P Γ) (hfr : FrOk w (Avoid c.X H ρ) H ρ cur a.tmps) {fs : List (Nat × TypeId)} (place : Nat → Option (Nat × Nat))
    (hpl : ∀ k off t ti, fs[k]? = some (off, t) → Γ.at_ t = some ti → place k = some (off, ti.cells)) :
    ∀ (parts : List (Nat × Operand)) (v : AV) {z : AV} {cells : Array Value}, RX w (Avoid c.X H ρ) H ρ v true cells.toList → v.stands = true → bldStruct Γ cur fs parts v = some z →
    ∃ cells' : Array Value, Instr.fill place cells (parts.map fun x => (x.1, a.eval x.2)) = some cells' ∧ RX w (Avoid c.X H ρ) H ρ z true cells'.toList ∧ z.stands = true ∧ z.lay = v.lay
  | [], v, z, cells, hv, hs, hb => by
    simp only [bldStruct, Option.some.injEq] at hb
    subst hb
    exact ⟨cells, by simp [Instr.fill], hv, hs, rfl⟩
  | (k, x) :: r, v, z, cells, hv, hs, hb => by
    simp only [bldStruct] at hb
    split at hb
    · rename_i off t o l hk hl
      split at hb
      · rename_i ti hti
        split at hb
        · rename_i hcond
          obtain ⟨rfl, hus, hul, hlc⟩ := hcond
          simp only [Option.bind_eq_some_iff] at hb
          obtain ⟨v', hv', hb⟩ := hb
          have hu := RV.cells hus (opnd_ok hfr x)
          obtain ⟨_, _, g3⟩ := comp_ok k v hv hl
          obtain ⟨m1, m2, m3⟩ := setComp_ok k v _ hv hl hv' hul hus hs hu
          have hulen := hu.len
          rw [hul, hlc] at hulen
          obtain ⟨cells', e1, e2, e3, e4⟩ := bldStruct_ok hΓ hfr place hpl r v' (cells := splice cells o (a.eval x).cells.toList) (by simpa [splice] using m3) m2 hb
          refine ⟨cells', ?_, e2, e3, e4.trans m1⟩
          rw [List.map_cons, fill_one _ _ _ _ _ (hpl k o t ti hk hti) hulen (by rw [← hlc]; simpa using g3)]
          exact e1
        · cases hb
      · cases hb
    · cases hb

theorem places_ok (hΓ : GamOk P Γ) : ∀ (fs : List Field), (∀ f : Field, f ∈ fs → ∃ ti, Γ.at_ f.type = some ti) → ∃ ps : List (Nat × Nat), fs.mapM (fun f => (P.info? f.type).map fun i => (f.offset, i.size)) = some ps ∧
      ∀ (k : Nat) (f : Field) (ti : TI), fs[k]? = some f → Γ.at_ f.type = some ti → ps[k]? = some (f.offset, ti.cells)
  | [], _ => ⟨[], by simp, fun k f ti hk => by simp at hk⟩
  | f :: fs, hall => by
    obtain ⟨ps, h1, h2⟩ := places_ok hΓ fs (fun f hf => hall f (List.mem_cons_of_mem _ hf))
    obtain ⟨ti, hti⟩ := hall f List.mem_cons_self
    obtain ⟨i, d, hi, _, hs, _⟩ := (hΓ _ _ hti).info
    refine ⟨(f.offset, ti.cells) :: ps, ?_, fun k g tg hk hg => ?_⟩
    · simp [List.mapM_cons, hi, hs, h1]
    · cases k with
      | zero =>
        simp only [List.getElem?_cons_zero, Option.some.injEq] at hk
        subst hk
        rw [hti] at hg; cases hg; rfl
      | succ k => simpa using h2 k g tg (by simpa using hk) hg

theorem build_struct_ok (hΓ : GamOk P Γ) (h : StOk c w H ρ) (hfr : FrOk w (Avoid c.X H ρ) H ρ cur a.tmps) {t : TypeId} {fs : List (Nat × TypeId)} {cl : Nat} {sc : Option Sch} {q : Bool} {parts : Array (Nat × Operand)} {z v : AV} {L : List Value}
    (ht : Γ.at_ t = some ⟨.struct fs, cl, sc, q⟩) (hz : zeroStruct Γ fs = some (z, L)) (hb : bldStruct Γ cur fs parts.toList z = some v) :
    Gives P c w H ρ (Instr.build t (parts.map fun (i, x) => (i, a.eval x))) v [] := by
  have hT := hΓ t _ ht
  obtain ⟨i, d, hi, hu, hsz, gs, rfl, hfs⟩ := hT.info
  obtain ⟨i', zv, hi', hzv, hzc⟩ := hT.zero fs z L rfl hz
  rw [hi] at hi'; cases hi'
  obtain ⟨z1, z2, z3, z4⟩ := zeroStruct_ok (w := w) (H := H) (ρ := ρ) (Avoid c.X H ρ) fs hz
  obtain ⟨ps, p1, p2⟩ := places_ok hΓ gs.toList (fun f hf => z4 (f.offset, f.type) (by rw [hfs]; exact List.mem_map.2 ⟨f, hf, rfl⟩))
  obtain ⟨cells', e1, e2, e3, e4⟩ := bldStruct_ok hΓ hfr (ps.toArray[·]?) (fun k off t ti hk hti => by
    rw [hfs, List.getElem?_map] at hk
    cases hg : gs.toList[k]? with
    | none => simp [hg] at hk
    | some f =>
      simp only [hg, Option.map_some, Option.some.injEq, Prod.mk.injEq] at hk
      obtain ⟨rfl, rfl⟩ := hk
      simpa using p2 k f ti hg hti) parts.toList z (cells := zv.cells) (by rw [hzc]; exact z1) z2 hb
  have hag : v.agg = true := by rw [← AV.lay_agg, e4, AV.lay_agg]; exact z3
  refine Gives.same h (val := .agg cells') ?_ (by simpa using RV.agg_ hag e2)
  refine run_build w t _ cells' ?_
  unfold Program.built
  simp only [hi, hu, hzv, p1]
  have hparts : (parts.map fun (i, x) => (i, a.eval x)).toList = parts.toList.map fun x => (x.1, a.eval x.2) := by simp
  rw [hparts]; exact e1

theorem build_array_ok (hΓ : GamOk P Γ) (h : StOk c w H ρ) (hfr : FrOk w (Avoid c.X H ρ) H ρ cur a.tmps) {t e : TypeId} {n cl : Nat} {sc : Option Sch} {q : Bool} {s : Sch} {parts : Array (Nat × Operand)} {ys : List s.T} {U : Upd}
    (ht : Γ.at_ t = some ⟨.array n e, cl, sc, q⟩) (hsc : sc = some (.arr n s)) (hb : bldSlice s cur H parts.toList (List.replicate n s.dflt) [] = some (ys, U)) :
    Gives P c w H ρ (Instr.build t (parts.map fun (i, x) => (i, a.eval x))) (.dat (.arr n s) ys) U := by
  have hT := hΓ t _ ht
  obtain ⟨i, d, hi, hu, hsz, hk⟩ := hT.info
  have hd : d = .array n e := hk
  subst hd
  obtain ⟨⟨i', zv, hi', hzv, hzc, _⟩, e', hu', he'⟩ := (hT.sch _ hsc).1
  rw [hi] at hi'; cases hi'
  rw [hu] at hu'; cases hu'
  obtain ⟨ie, _, hie, _, _, hies, _⟩ := SchOk.info he'
  have hz0 := RepC.zero w (Avoid c.X H ρ) (.arr n s)
  obtain ⟨cells', l', e1, e2, e3, e4, e5⟩ := bldSlice_ok (a := a) h hfr parts.toList (List.replicate n s.dflt) [] (cells := zv.cells) (U := U) h (by rw [hzc]; exact hz0.2) (Tr.refl h) hb
  refine ⟨.agg cells', w, ρ, ?_, ?_, e5⟩
  · refine run_build w t _ cells' ?_
    unfold Program.built
    simp only [hi, hu, hzv, hie]
    have hparts : (parts.map fun (i, x) => (i, a.eval x)).toList = parts.toList.map fun x => (x.1, a.eval x.2) := by simp
    rw [hparts, hies]; exact e2
  · have : RX w (Avoid c.X (upd H U) ρ) (upd H U) ρ (.dat (.arr n s) ys) true cells'.toList := (⟨by rw [e4]; simp, e3⟩ : RepC w (Avoid c.X (upd H U) ρ) (.arr n s) ys cells'.toList)
    simpa using RV.agg_ (v := .dat (.arr n s) ys) rfl this
/-- The zero of a struct or of an array of functions. -/
theorem zeroAny_ok (hΓ : GamOk P Γ) (A : Nat → Prop) {t : TypeId} {ti : TI} (ht : Γ.at_ t = some ti) {z : AV} {L : List Value} (hz : zeroAny Γ ti = some (z, L)) :
    RX w A H ρ z true L ∧ z.stands = true ∧ ∃ v, v.cells.toList = L ∧ ∀ w, (zeroValue t).run P w = .ok v w := by
  obtain ⟨i, v, hi, hv, hl⟩ := (hΓ t ti ht).zarr z L hz
  have hrx : RX w A H ρ z true L ∧ z.stands = true := by
    unfold zeroAny at hz
    split at hz
    · obtain ⟨h1, h2, _⟩ := zeroStruct_ok (w := w) (H := H) (ρ := ρ) A _ hz
      exact ⟨h1, h2⟩
    · split at hz
      · simp only [Option.some.injEq, Prod.mk.injEq] at hz
        obtain ⟨rfl, rfl⟩ := hz
        exact ⟨by show _ = _; simp [fnVal], rfl⟩
      · cases hz
    · simp only [Option.some.injEq, Prod.mk.injEq] at hz
      obtain ⟨rfl, rfl⟩ := hz
      exact ⟨rfl, rfl⟩
    · cases hz
  exact ⟨hrx.1, hrx.2, v, hl, fun w => by simp [zeroValue, typeInfo, hi, hv]⟩

theorem bldFns_ok (hfr : FrOk w (Avoid c.X H ρ) H ρ cur a.tmps) : ∀ (parts : List (Nat × Operand)) (fs : List (Option FuncId)) {ys : List (Option FuncId)} {cells : Array Value}, cells.toList = fs.map fnVal → bldFns cur parts fs = some ys →
    ∃ cells', Instr.fill (fun i => some (i * 1, 1)) cells (parts.map fun x => (x.1, a.eval x.2)) = some cells' ∧ cells'.toList = ys.map fnVal ∧ ys.length = fs.length
  | [], fs, ys, cells, hc, hb => by
    simp only [bldFns, Option.some.injEq] at hb
    subst hb
    exact ⟨cells, by simp [Instr.fill], hc, rfl⟩
  | (i, x) :: r, fs, ys, cells, hc, hb => by
    simp only [bldFns] at hb
    split at hb
    · rename_i hi
      split at hb
      · rename_i f hf
        have hv := opnd_ok hfr x
        rw [hf] at hv
        obtain ⟨vs, hcs, hr⟩ := (hv : ∃ vs : List Value, [a.eval x] = [Value.func (.func f) #[] vs.toArray] ∧ RX w (Avoid c.X H ρ) H ρ .un false vs)
        have hr : vs = [] := hr
        subst hr
        simp only [List.cons.injEq, and_true] at hcs
        have hsz : cells.size = fs.length := by rw [← Array.length_toList, hc]; simp
        have hval : (a.eval x).cells.toList = [fnVal (some f)] := by rw [hcs]; rfl
        obtain ⟨cells', e1, e2, e3⟩ := bldFns_ok hfr r (fs.set i (some f)) (cells := splice cells (i * 1) (a.eval x).cells.toList) (by
          rw [hval]
          simp only [splice, Nat.mul_one, hc, List.length_singleton]
          rw [List.set_eq_take_append_cons_drop, if_pos hi]
          simp [List.map_append, List.map_take, List.map_drop]) hb
        refine ⟨cells', ?_, e2, by rw [e3]; simp⟩
        rw [List.map_cons, fill_one _ _ _ _ _ rfl (by rw [hval]; rfl) (by omega)]
        exact e1
      · cases hb
    · cases hb

theorem build_fns_ok (hΓ : GamOk P Γ) (h : StOk c w H ρ) (hfr : FrOk w (Avoid c.X H ρ) H ρ cur a.tmps) {t e : TypeId} {n cl cl' : Nat} {sc sc' : Option Sch} {q q' : Bool} {parts : Array (Nat × Operand)} {ys : List (Option FuncId)}
    (ht : Γ.at_ t = some ⟨.array n e, cl, sc, q⟩) (hte : Γ.at_ e = some ⟨.func, cl', sc', q'⟩) (hb : bldFns cur parts.toList (List.replicate n none) = some ys) :
    Gives P c w H ρ (Instr.build t (parts.map fun (i, x) => (i, a.eval x))) (.fns ys) [] := by
  have hT := hΓ t _ ht
  obtain ⟨i, d, hi, hu, hsz, hk⟩ := hT.info
  have hd : d = .array n e := hk
  subst hd
  have hE := hΓ e _ hte
  obtain ⟨ie, de, hie, _, hies, _⟩ := hE.info
  have hcl : ie.size = 1 := by rw [hies]; exact hE.one rfl
  obtain ⟨i', zv, hi', hzv, hzc⟩ := hT.zarr (.fns (List.replicate n none)) (List.replicate n .nilFunc) (by simp [zeroAny, hte])
  rw [hi] at hi'; cases hi'
  obtain ⟨cells', e1, e2, e3⟩ := bldFns_ok (a := a) hfr parts.toList (List.replicate n none) (cells := zv.cells) (by rw [hzc]; simp [fnVal]) hb
  refine ⟨.agg cells', w, ρ, ?_, ?_, Tr.refl h⟩
  · refine run_build w t _ cells' ?_
    unfold Program.built
    simp only [hi, hu, hzv, hie]
    have hparts : (parts.map fun (i, x) => (i, a.eval x)).toList = parts.toList.map fun x => (x.1, a.eval x.2) := by simp
    rw [hparts, hcl]; exact e1
  · have : RX w (Avoid c.X H ρ) H ρ (.fns ys) true cells'.toList := e2
    have := RV.agg_ (v := .fns ys) rfl this
    show RV w (Avoid c.X H ρ) H ρ _ _
    simpa using this
end
end Go.AI

/- The other operations on memory: slices made, cut, copied; addresses; parts. -/
noncomputable section
namespace Go.AI
open Go Go.RowKit

section
variable {P : Program} {Γ : Gam} {c : Ctx P} {w : World} {H H' : List AObj} {ρ : Rho} {o : Nat} {cur : List AV} {a : Act}

theorem fill_nil (place : Nat → Option (Nat × Nat)) (cells : Array Value) : Instr.fill place cells [] = some cells := rfl

/-- Zeros, one behind the other. -/
theorem zeros_rep (A : Nat → Prop) {z : Value} {s : Sch} (hz : z.cells.toList = zcells s) (n : Nat) : RepL (RepC w A s) (List.replicate n s.dflt) (madeCells z.cells (n * s.cells)).toList := by
  have h0 := RepC.zero w A s
  have hlen : z.cells.size = s.cells := z_size hz w A
  rw [← hz] at h0
  have key : ∀ m, (madeCells z.cells (m * s.cells)).toList = (List.replicate m z.cells.toList).flatten := by
    intro m
    simp only [madeCells, Array.toList_map, Array.toList_range]
    induction m with
    | zero => simp
    | succ m ih =>
      rw [List.replicate_succ', List.flatten_append, ← ih, Nat.add_mul, Nat.one_mul, List.range_add, List.map_append]
      congr 1
      simp only [List.flatten_cons, List.flatten_nil, List.append_nil, List.map_map]
      apply List.ext_getElem?
      intro j
      simp only [List.getElem?_map]
      by_cases hj : j < s.cells
      · rw [List.getElem?_range hj]
        simp only [Option.map_some, Function.comp, hlen]
        have : (m * s.cells + j) % s.cells = j := by rw [Nat.mul_comm, Nat.mul_add_mod, Nat.mod_eq_of_lt hj]
        rw [this]
        simp [hlen, hj]
      · rw [List.getElem?_eq_none (by simp; omega), List.getElem?_eq_none (by simp; omega)]; rfl
  rw [key]
  induction n with
  | zero => rfl
  | succ n ih => exact ⟨_, _, by simp [List.replicate_succ], h0, ih⟩

/-- A row in a new block, all of it elements. -/
theorem new_row (h : StOk c w H ρ) {n : Nat} (hn : n < H.length) (hfree : ASt.obj H n = .free) {E : TypeId} {s : Sch} {zs : List s.T} {cells : Array Value} {fr : Nat × Nat} (hf : fr.1 = fr.2 ∨ cells.size ≤ fr.1) {C : Nat}
    (hC : zs.length ≤ C) (hm : C ≤ maxLen) (hsz : cells.size = C * s.cells) (hL : RepL (RepC w (Avoid c.X H ρ) s) zs (cells.toList.take (zs.length * s.cells))) :
    Tr c w H ρ (w.alloc (.cells cells E fr)) (H.set n (.row E s zs false)) (updR ρ n (some (w.heap.size, C))) ∧
    ∀ A, RV (w.alloc (.cells cells E fr)) A (H.set n (.row E s zs false)) (updR ρ n (some (w.heap.size, C))) (.row n) (.slice (some ⟨w.heap.size, 0, none⟩) zs.length C) :=
  ⟨Tr.alloc h hn hfree (ob := .row E s zs false) (C := C) hf ⟨rfl, hsz, hC, hm, hL⟩, fun _ => rv_row (obj_set_same hn _) (updR_same _ _) hC (Nat.le_refl _) hm⟩

theorem buildSlice_ok (hΓ : GamOk P Γ) (h : StOk c w H ρ) (hfr : FrOk w (Avoid c.X H ρ) H ρ cur a.tmps) {t E : TypeId} {s : Sch} {n nid : Nat} {parts : Array (Nat × Operand)} {xs : List s.T} {V U : Upd}
    (hel : Γ.elem t = some (E, s)) (hn : n ≤ 65536) (hsmall : n * s.cells ≤ 16777216) (hb : bldSlice s cur H parts.toList (List.replicate n s.dflt) [] = some (xs, V)) (hU : newObj? H nid (.row E s xs false) = some U) (hnv : nid ∉ V.map (·.1)) :
    Gives P c w H ρ (Instr.buildSlice t n (parts.map fun (i, x) => (i, a.eval x))) (.row nid) (V ++ U) := by
  obtain ⟨hu, hE⟩ := elem_ok hΓ hel
  obtain ⟨i, z, hi, hiz, hzc, hsz, _, _⟩ := SchOk.info hE
  obtain ⟨hnl, hfree, rfl⟩ := newObj_some hU
  have hzsz : z.cells.size = s.cells := z_size hzc w (Avoid c.X H ρ)
  obtain ⟨cells', l', rfl, e2, e3, e4, e5⟩ := bldSlice_ok (a := a) h hfr parts.toList (List.replicate n s.dflt) [] (cells := madeCells z.cells (n * s.cells)) (U := V) h (zeros_rep _ hzc n) (Tr.refl h) hb
  simp only [List.length_replicate] at e4
  have hlen := RepL.length (fun x c => RepC.length s) e3
  rw [e4] at hlen
  have hlen' : cells'.size = n * s.cells := by simpa using hlen
  have hfree' : ASt.obj (upd H (l'.map fun o => (o, freezeObj (ASt.obj H o)))) nid = .free := by
    rw [(Tr.freezes h l' H h (fun _ => rfl)).2.2.1 nid (by simpa using hnv)]; exact hfree
  have hnl' : nid < (upd H (l'.map fun o => (o, freezeObj (ASt.obj H o)))).length := by
    rw [(Tr.freezes h l' H h (fun _ => rfl)).2.2.2.2]; exact hnl
  obtain ⟨g1, g2⟩ := new_row e5.ok hnl' hfree' (E := E) (zs := xs) (cells := cells') (fr := (0, 0)) (.inl rfl) (C := n) (by omega) (by simp only [maxLen]; omega) hlen' (by rw [e4, ← hlen, List.take_length]; exact e3)
  have hup : upd H ((l'.map fun o => (o, freezeObj (ASt.obj H o))) ++ [(nid, .row E s xs false)]) = (upd H (l'.map fun o => (o, freezeObj (ASt.obj H o)))).set nid (.row E s xs false) := by simp [upd]
  unfold Gives
  rw [hup]
  refine ⟨.slice (some ⟨w.heap.size, 0, none⟩) n n, w.alloc (.cells cells' E), updR ρ nid (some (w.heap.size, n)), ?_, ?_, e5.trans g1⟩
  · have hparts : (parts.map fun (i, x) => (i, a.eval x)).toList = parts.toList.map fun x => (x.1, a.eval x.2) := by simp
    have hsm : ¬ n * i.size > 2 ^ 24 := by rw [hsz]; omega
    by_cases hpos : n * i.size = 0
    · have hc0 : madeCells z.cells (n * s.cells) = #[] := by rw [← hsz, hpos]; simp [madeCells]
      rw [hc0] at e2
      simp [Instr.buildSlice, run_underlying hu, sizeOf, typeInfo, hi, hpos, newRow]
      have hr0 : Array.range 0 = (#[] : Array Nat) := rfl
      rw [hsz, hr0, Array.map_empty, e2]
      simp
    · have hm := run_buildSlice (P := P) w t E n (parts.map fun (i, x) => (i, a.eval x)) cells' i z hu hi hiz hsm hpos (by
        rw [hparts, hsz]; exact e2)
      exact hm
  · have := g2 (Avoid c.X ((upd H (l'.map fun o => (o, freezeObj (ASt.obj H o)))).set nid (.row E s xs false)) (updR ρ nid (some (w.heap.size, n))))
    rw [e4] at this; exact this

theorem sameOpnd_eq {l cp : Operand} (h : sameOpnd l cp = true) : l = cp := by
  unfold sameOpnd at h
  split at h
  · simpa using h
  · cases h

/-- make. -/
theorem make_ok (hΓ : GamOk P Γ) (h : StOk c w H ρ) (hfr : FrOk w (Avoid c.X H ρ) H ρ cur a.tmps) {t : TypeId} {l cp : Operand} {nid : Nat} {v : AV} {U : Upd} (ha : aMake Γ t l cp cur H nid = some (true, v, U)) :
    Gives P c w H ρ (Instr.makeSlice t (a.eval l) (a.eval cp)) v U := by
  unfold aMake at ha
  split at ha
  · rename_i E s j x k y hel hl hc
    cases hU : newObj? H nid (.row E s (List.replicate (toI j x).toNat s.dflt) false) with
    | none => simp [hU] at ha
    | some U' =>
      simp only [hU, Option.map_some, Option.some.injEq, Prod.mk.injEq] at ha
      obtain ⟨hcond, rfl, rfl⟩ := ha
      obtain ⟨hu, hE⟩ := elem_ok hΓ hel
      obtain ⟨i, z, hi, hiz, hzc, hsz, hby, _⟩ := SchOk.info hE
      obtain ⟨hnl, hfree, rfl⟩ := newObj_some hU
      have hlv := opnd_ok hfr l
      have hcv := opnd_ok hfr cp
      rw [hl] at hlv
      rw [hc] at hcv
      obtain ⟨el, _⟩ := RV.int hlv
      obtain ⟨ec, _⟩ := RV.int hcv
      simp only [Bool.and_eq_true, Bool.or_eq_true, decide_eq_true_eq] at hcond
      obtain ⟨⟨h0, h1⟩, h2⟩ := hcond
      have h1' : toI j x ≤ toI k y := by
        rcases h1 with h1 | h1
        · have e := sameOpnd_eq h1
          subst e
          rw [el] at ec; simp at ec; omega
        · exact h1
      simp only [big] at h2
      have hb : (i.bytes : Int) * toI k y ≤ 281474976710656 := by
        have : (i.bytes : Int) * toI k y ≤ 65536 * 2147483648 := Int.mul_le_mul (by omega) h2 (by omega) (by omega)
        omega
      have hrun := run_make (P := P) w t E i z hu hi hiz j k (toI j x) (toI k y) h0 h1' hb (by omega)
      have hzsz : z.cells.size = s.cells := z_size hzc w (Avoid c.X H ρ)
      have hsize : (madeCells z.cells ((toI k y).toNat * i.size)).size = (toI k y).toNat * s.cells := by simp [madeCells, hsz]
      have hrep := zeros_rep (w := w) (Avoid c.X H ρ) hzc (toI k y).toNat
      obtain ⟨g1, g2⟩ := new_row h hnl hfree (E := E) (zs := List.replicate (toI j x).toNat s.dflt) (cells := madeCells z.cells ((toI k y).toNat * i.size)) (fr := (0, 0)) (.inl rfl) (C := (toI k y).toNat) (by simp; omega) (by simp only [maxLen]; omega) hsize (by
        rw [hsz]
        have := RepL.take (fun x c => RepC.length s) hrep (toI j x).toNat
        simpa [List.take_replicate, Nat.min_eq_left (show (toI j x).toNat ≤ (toI k y).toNat by omega)] using this)
      refine ⟨.slice (some ⟨w.heap.size, 0, none⟩) (toI j x).toNat (toI k y).toNat, _, _, ?_, ?_, g1⟩
      · rw [el, ec, hrun]
      · have := g2 (Avoid c.X (H.set nid (.row E s (List.replicate (toI j x).toNat s.dflt) false)) (updR ρ nid (some (w.heap.size, (toI k y).toNat))))
        rw [List.length_replicate] at this
        exact this
  · cases ha
end
end Go.AI

/- Slices cut. -/
noncomputable section
namespace Go.AI
open Go Go.RowKit

theorem addr_add_add (a : Addr) (i j : Nat) : (a.add i).add j = a.add (i + j) := by
  unfold Addr.add
  by_cases hi : i = 0
  · subst hi; simp
  · by_cases hj : j = 0
    · subst hj; simp [hi]
    · rw [if_neg hi, if_neg hj, if_neg (by omega)]; simp [Nat.add_assoc]

def BndIs (v : Option Value) : Option Int → Prop
  | none => v = none
  | some i => ∃ k, v = some (.int k i)

theorem okCut_bounds {n : Nat} {lo hi : Option Int} (h : okCut n lo hi = true) : loOf lo ≤ hiOf n hi ∧ hiOf n hi ≤ n ∧ (∀ l, lo = some l → 0 ≤ l) ∧ (∀ u, hi = some u → 0 ≤ u) := by
  cases lo <;> cases hi <;> simp [okCut, loOf, hiOf] at h ⊢ <;> omega
theorem cut_eq {α : Type} {xs : List α} {lo hi : Option Int} (h : okCut xs.length lo hi = true) : cut xs lo hi = (xs.drop (loOf lo)).take (hiOf xs.length hi - loOf lo) := by
  cases lo <;> cases hi <;> simp [cut, loOf, hiOf]
  · rename_i l
    rw [List.take_of_length_le]; simp
  · rename_i l u
    rw [List.drop_take]

section
variable {P : Program} {Γ : Gam} {c : Ctx P} {w : World} {H H' : List AObj} {ρ : Rho} {o : Nat} {cur : List AV} {a : Act}

theorem bnd_ok (hfr : FrOk w (Avoid c.X H ρ) H ρ cur a.tmps) {x : Option Operand} {b : Option Int} (h : bnd (x.map (opnd cur)) = some b) : BndIs (x.map a.eval) b := by
  cases x with
  | none => simp only [Option.map_none, bnd, Option.some.injEq] at h; subst h; rfl
  | some x =>
    have hv := opnd_ok hfr x
    simp only [Option.map_some] at h ⊢
    generalize opnd cur x = v at h hv
    unfold bnd at h
    split at h
    · rename_i e; cases e
    · rename_i k y e
      simp only [Option.some.injEq] at e h
      subst e; subst h
      exact ⟨k, by rw [(RV.int hv).1]⟩
    · cases h

theorem run_bounds {isS : Bool} {len cap : Nat} {vlo vhi : Option Value} {lo hi : Option Int} (h1 : BndIs vlo lo) (h2 : BndIs vhi hi) (hok : okCut len lo hi = true) (hc : len ≤ cap) :
    (Instr.sliceBounds isS len cap vlo vhi none).run P w = .ok (loOf lo, hiOf len hi, cap) w := by
  obtain ⟨b1, b2, b3, b4⟩ := okCut_bounds hok
  have key : ∀ (k : IntKind) (i : Int) (y : Nat) (code : BoundsCode), 0 ≤ i → i.toNat ≤ y → (Instr.sliceBound (.int k i) y code).run P w = .ok i.toNat w := by
    intro k i y code h0 hy
    have : i ≤ (y : Int) := by omega
    simp [Instr.sliceBound, asIntOf, h0, this]
  cases lo with
  | none =>
    have e1 : vlo = none := h1
    subst e1
    cases hi with
    | none =>
      have e2 : vhi = none := h2
      subst e2
      simp [Instr.sliceBounds, loOf, hiOf]
    | some u =>
      obtain ⟨k, e2⟩ := h2
      subst e2
      simp only [hiOf] at b2
      simp [Instr.sliceBounds, key k u cap _ (b4 u rfl) (by omega), loOf, hiOf]
  | some l =>
    obtain ⟨j, e1⟩ := h1
    subst e1
    cases hi with
    | none =>
      have e2 : vhi = none := h2
      subst e2
      simp only [loOf, hiOf] at b1
      simp [Instr.sliceBounds, key j l len _ (b3 l rfl) (by omega), loOf, hiOf]
    | some u =>
      obtain ⟨k, e2⟩ := h2
      subst e2
      simp only [loOf, hiOf] at b1 b2
      simp [Instr.sliceBounds, key k u cap _ (b4 u rfl) (by omega), key j l u.toNat _ (b3 l rfl) (by omega), loOf, hiOf]

theorem sliceOf_ok (hΓ : GamOk P Γ) {t : TypeId} {n : Nat} (h : Γ.sliceOf t n = true) : ∃ e ti, P.underlying t = some (.slice e) ∧ TIOk P Γ e ti ∧ ti.cells = n := by
  unfold Gam.sliceOf at h
  split at h
  · rename_i e cl sc q ht
    split at h
    · rename_i ti hti
      obtain ⟨i, d, _, hu, _, hk⟩ := (hΓ t _ ht).info
      have hd : d = .slice e := hk
      subst hd
      exact ⟨e, ti, hu, hΓ e ti hti, by simpa using h⟩
    · cases h
  · cases h

/-- A slice is cut. -/
theorem run_cut (hΓ : GamOk P Γ) {t : TypeId} {n : Nat} (h : Γ.sliceOf t n = true) {ad : Option Addr} {len cap : Nat} {vlo vhi : Option Value} {lo hi : Option Int} (h1 : BndIs vlo lo) (h2 : BndIs vhi hi) (hok : okCut len lo hi = true) (hc : len ≤ cap) :
    (Instr.sliceAt t (.slice ad len cap) vlo vhi none).run P w = .ok (.slice (if cap = loOf lo then ad else ad.map (·.add (loOf lo * n))) (hiOf len hi - loOf lo) (cap - loOf lo)) w := by
  obtain ⟨e, ti, hu, hT, rfl⟩ := sliceOf_ok hΓ h
  simp [Instr.sliceAt, Instr.slice, run_underlying hu, run_bounds (P := P) (w := w) h1 h2 hok hc, run_sizeOf hT]

theorem RepC.cut {A : Nat → Prop} {s : Sch} {xs : List s.T} {ad : Option Addr} {len cap : Nat} {lo hi : Option Int} (hok : okCut xs.length lo hi = true) (h : RepC w A (.slc s) xs [.slice ad len cap]) :
    len = xs.length ∧ len ≤ cap ∧ RepC w A (.slc s) (cut xs lo hi) [.slice (if cap = loOf lo then ad else ad.map (·.add (loOf lo * s.cells))) (hiOf len hi - loOf lo) (cap - loOf lo)] := by
  obtain ⟨ad', cap', e, h1, h2, h3⟩ := h
  simp only [List.cons.injEq, Value.slice.injEq, and_true] at e
  obtain ⟨rfl, rfl, rfl⟩ := e
  obtain ⟨b1, b2, b3, b4⟩ := okCut_bounds hok
  refine ⟨rfl, h1, ?_⟩
  rw [cut_eq hok]
  have hlen : ((xs.drop (loOf lo)).take (hiOf xs.length hi - loOf lo)).length = hiOf xs.length hi - loOf lo := by simp; omega
  refine ⟨_, _, by rw [hlen], by rw [hlen]; omega, by omega, ?_⟩
  by_cases hn : hiOf xs.length hi - loOf lo = 0
  · left; rw [hn]; simp
  right
  rcases h3 with h3 | ⟨a, L, rfl, hb, hA, hr, hc⟩
  · subst h3; simp only [List.length_nil] at *; omega
  rw [if_neg (by omega)]
  refine ⟨a.add (loOf lo * s.cells), _, rfl, by rw [Addr.add_block]; exact hb, by rw [Addr.add_block]; exact hA, RepL.take (fun x c => RepC.length s) (RepL.drop (fun x c => RepC.length s) hr (loOf lo)) _, ?_⟩
  intro j u hu
  rw [addr_add_add]
  rw [List.getElem?_take] at hu
  split at hu
  · rw [List.getElem?_drop] at hu; exact hc _ _ hu
  · cases hu

theorem slR_cut {off n : Nat} {len : Option Nat} {ad : Option Addr} {l cap : Nat} {e : Elems} {lo hi : Option Int} (he : (ASt.obj H o).elems = some e) (hlen : len.getD e.xs.length = n) (hok : okCut n lo hi = true) (h : SlR H ρ o off len [.slice ad l cap]) :
    l = n ∧ l ≤ cap ∧ SlR H ρ o (off + loOf lo) (some (hiOf n hi - loOf lo)) [.slice (if cap = loOf lo then ad else ad.map (·.add (loOf lo * e.s.cells))) (hiOf n hi - loOf lo) (cap - loOf lo)] := by
  obtain ⟨h0, h⟩ := h
  simp only [he] at h
  rw [hlen] at h
  obtain ⟨a', cap', hv, h1, h2, h3, h4⟩ := h
  simp only [List.cons.injEq, Value.slice.injEq, and_true] at hv
  obtain ⟨rfl, rfl, rfl⟩ := hv
  obtain ⟨b1, b2, b3, b4⟩ := okCut_bounds hok
  refine ⟨rfl, h2, h0, ?_⟩
  simp only [he, Option.getD_some]
  refine ⟨_, _, rfl, by omega, by omega, by omega, ?_⟩
  cases hr : ρ o with
  | none =>
    rw [hr] at h4
    simp only at h4 ⊢
    omega
  | some gC =>
    rw [hr] at h4
    simp only at h4 ⊢
    refine ⟨by omega, ?_⟩
    by_cases hc : cap = loOf lo
    · left; omega
    · right
      rcases h4.2 with h5 | h5
      · omega
      · rw [if_neg hc, h5]
        simp only [Option.map_some, Option.some.injEq]
        rw [add_lit, Nat.add_mul]

theorem slice_ok (hΓ : GamOk P Γ) (h : StOk c w H ρ) (hfr : FrOk w (Avoid c.X H ρ) H ρ cur a.tmps) {t : TypeId} {x : Operand} {lo hi mx : Option Operand} {v : AV}
    (ha : aSlice Γ H t (opnd cur x) (lo.map (opnd cur)) (hi.map (opnd cur)) (mx.map (opnd cur)) = some (true, v)) :
    Gives P c w H ρ (Instr.sliceAt t (a.eval x) (lo.map a.eval) (hi.map a.eval) (mx.map a.eval)) v [] := by
  unfold aSlice at ha
  split at ha
  · rename_i l u hl hu hmx
    have e3 : mx = none := by simpa using hmx
    subst e3
    have h1 := bnd_ok hfr hl
    have h2 := bnd_ok hfr hu
    have hv := opnd_ok hfr x
    generalize opnd cur x = xv at ha hv
    split at ha
    · rename_i b
      split at ha
      · rename_i ht
        simp only [Option.some.injEq, Prod.mk.injEq] at ha
        obtain ⟨hok, rfl⟩ := ha
        obtain ⟨hval, hm⟩ := RV.str hv
        have hty : P.underlying t = some .string := by
          simp only [Gam.sch, beq_iff_eq] at ht
          cases hg : Γ.at_ t with
          | none => simp [hg] at ht
          | some ti => simp only [hg, Option.bind_some] at ht; exact ((hΓ t ti hg).sch _ ht).1.2
        have hsz : (⟨b.toArray⟩ : ByteArray).size = b.length := by simp [ByteArray.size]
        have hb := run_bounds (P := P) (w := w) (isS := false) (len := (⟨b.toArray⟩ : ByteArray).size) (cap := (⟨b.toArray⟩ : ByteArray).size) h1 h2 (by rw [hsz]; exact hok) (Nat.le_refl _)
        have hex : (⟨b.toArray⟩ : ByteArray).extract (loOf l) (hiOf b.length u) = ⟨(cut b l u).toArray⟩ := by
          rw [cut_eq hok]
          apply ByteArray.ext
          apply Array.ext'
          simp [ByteArray.data_extract]
        refine Gives.same h (val := .string ⟨(cut b l u).toArray⟩) ?_ ?_
        · rw [hval]
          rw [hsz] at hb
          simp [Instr.sliceAt, Instr.slice, run_underlying hty, hsz, hb, hex]
        · refine (⟨rfl, ?_⟩ : RepC _ _ .str (cut b l u) [_])
          obtain ⟨_, b2, _⟩ := okCut_bounds hok
          rw [cut_eq hok, List.length_take, List.length_drop]; omega
      · cases ha
    · rename_i s xs
      split at ha
      · rename_i ht
        simp only [Option.some.injEq, Prod.mk.injEq] at ha
        obtain ⟨hok, rfl⟩ := ha
        have hr : RepC w (Avoid c.X H ρ) (.slc s) xs [a.eval x] := hv
        obtain ⟨ad, cap, hval, hc, _⟩ := RepC.slice hr
        rw [hval] at hr ⊢
        exact Gives.same h (run_cut hΓ ht h1 h2 hok hc) (RepC.cut hok hr).2.2
      · cases ha
    · rename_i s xs
      split at ha
      · rename_i ht
        simp only [Option.some.injEq, Prod.mk.injEq] at ha
        obtain ⟨hok, rfl⟩ := ha
        obtain ⟨ad, hval, hr⟩ := (hv : ∃ ad, [a.eval x] = [Value.slice ad xs.length xs.length] ∧ RepC w (Avoid c.X H ρ) (.slc s) xs [a.eval x])
        simp only [List.cons.injEq, and_true] at hval
        rw [hval] at hr ⊢
        have hrc := (RepC.cut hok hr).2.2
        refine Gives.same h (run_cut hΓ ht h1 h2 hok (Nat.le_refl _)) ?_
        cases u with
        | some u => exact hrc
        | none =>
          have e : (cut xs l none).length = xs.length - loOf l := by rw [cut_eq hok]; simp [hiOf]
          refine (⟨if xs.length = loOf l then ad else ad.map (·.add (loOf l * s.cells)), ?_, hrc⟩ : ∃ ad', [Value.slice (if xs.length = loOf l then ad else ad.map (·.add (loOf l * s.cells))) (hiOf xs.length none - loOf l) (xs.length - loOf l)] = [Value.slice ad' (cut xs l none).length (cut xs l none).length] ∧ _)
          rw [e]; rfl
      · cases ha
    · rename_i o
      split at ha
      · rename_i e he
        split at ha
        · rename_i ht
          simp only [Option.some.injEq, Prod.mk.injEq] at ha
          obtain ⟨hok, rfl⟩ := ha
          have hr : SlR H ρ o 0 none [a.eval x] := hv
          have hr' := hr
          obtain ⟨_, hr'⟩ := hr'
          simp only [he] at hr'
          obtain ⟨ad, cap, hval, _, hc, _⟩ := hr'
          simp only [List.cons.injEq, and_true, Option.getD_none] at hval hc
          rw [hval] at hr ⊢
          have := (slR_cut (len := none) (n := e.xs.length) he rfl hok hr).2.2
          simp only [Nat.zero_add] at this
          exact Gives.same h (run_cut hΓ ht h1 h2 hok hc) this
        · cases ha
      · cases ha
    · rename_i o off n
      split at ha
      · rename_i e he
        split at ha
        · rename_i ht
          simp only [Option.some.injEq, Prod.mk.injEq] at ha
          obtain ⟨hok, rfl⟩ := ha
          have hr : SlR H ρ o off (some n) [a.eval x] := hv
          have hr' := hr
          obtain ⟨_, hr'⟩ := hr'
          simp only [he] at hr'
          obtain ⟨ad, cap, hval, _, hc, _⟩ := hr'
          simp only [List.cons.injEq, and_true, Option.getD_some] at hval hc
          rw [hval] at hr ⊢
          have := (slR_cut (len := some n) (n := n) he rfl hok hr).2.2
          exact Gives.same h (run_cut hΓ ht h1 h2 hok hc) this
        · cases ha
      · cases ha
    · cases ha
  · cases ha
end
end Go.AI

/- Addresses, and parts. -/
noncomputable section
namespace Go.AI
open Go Go.RowKit

section
variable {P : Program} {Γ : Gam} {c : Ctx P} {w : World} {H H' : List AObj} {ρ : Rho} {o : Nat} {cur : List AV} {a : Act}

theorem at_append {l' : Lay} {i : Nat} : ∀ {p : List Nat} {l : Lay} {off : Nat}, l.at_ p = some (off, l') → l.at_ (p ++ [i]) = (l'.sub i).map fun y => (off + y.1, y.2)
  | [], l, off, h => by
    simp only [Lay.at_, Option.some.injEq, Prod.mk.injEq] at h
    obtain ⟨rfl, rfl⟩ := h
    simp only [List.nil_append, Lay.at_]
    cases l.sub i <;> simp
  | j :: p, l, off, h => by
    simp only [Lay.at_, Option.bind_eq_some_iff, Option.map_eq_some_iff] at h
    obtain ⟨⟨o1, l1⟩, h1, ⟨o2, l2⟩, h2, he⟩ := h
    simp only [Prod.mk.injEq] at he
    obtain ⟨rfl, rfl⟩ := he
    have e := at_append (i := i) (h2 : l1.at_ p = some (o2, l2))
    simp only [List.cons_append, Lay.at_, h1, Option.bind_some, e]
    cases l2.sub i <;> simp [Nat.add_assoc]

/-- A pointer one step on. -/
theorem ptr_step (h : StOk c w H ρ) {o : Nat} {p : List Nat} {v : Value} {i off : Nat} {l : Lay} (hp : PtrR (ASt.obj H o) (ρ o) p [v]) (hl : ((ASt.obj H o).get p).lay.sub i = some (off, l)) :
    ∃ ad, v = .pointer (some ad) ∧ PtrR (ASt.obj H o) (ρ o) (p ++ [i]) [.pointer (some (ad.add off))] := by
  rcases hp with ⟨hg, _⟩ | ⟨hlv, g, C, off', l', hlay, hr, hcs⟩
  · rw [hg] at hl
    have : (AObj.get .gone p) = .dead := dead_get p
    rw [this] at hl
    cases i <;> simp [AV.lay, Lay.sub, Lay.comp] at hl
  · simp only [List.cons.injEq, and_true] at hcs
    refine ⟨_, hcs, .inr ⟨hlv, g, C, off' + off, l, ?_, hr, by rw [add_lit]⟩⟩
    have hne : ∀ x, ASt.obj H o ≠ .oth x := by
      intro x e
      rw [e] at hl
      have : (AObj.get (.oth x) p) = .dead := dead_get p
      rw [this] at hl
      cases i <;> simp [AV.lay, Lay.sub, Lay.comp] at hl
    obtain ⟨E, cur, K, Z, _, _, _, hrx, _⟩ := obj_in h hlv hne hr
    have hlay' := hlay
    rw [av_lay hlv hne] at hlay'
    have := (get_ok p _ hrx hlay').1
    rw [at_append hlay]
    have e0 : ((ASt.obj H o).get p).lay = l' := this
    rw [e0] at hl
    rw [hl]; rfl

theorem sub_comp {l l' : Lay} {i off : Nat} (h : l.comp i = some (off, l')) : l.sub i = some (off, l') := by
  cases l <;> first | exact h | (cases i <;> simp [Lay.comp] at h)

theorem fieldOf_ok (hΓ : GamOk P Γ) {t : TypeId} {f off : Nat} {ti : TI} (h : fieldOf Γ t f = some (off, ti)) :
    ∃ (gs : Array Field) (fd : Field), P.underlying t = some (.struct gs) ∧ gs[f]? = some fd ∧ fd.offset = off ∧ TIOk P Γ fd.type ti := by
  unfold fieldOf at h
  split at h
  · rename_i fs cl sc q ht
    split at h
    · rename_i off' ft hf
      cases hg : Γ.at_ ft with
      | none => simp [hg] at h
      | some ti' =>
        simp only [hg, Option.map_some, Option.some.injEq, Prod.mk.injEq] at h
        obtain ⟨rfl, rfl⟩ := h
        obtain ⟨i, d, _, hu, _, gs, rfl, rfl⟩ := (hΓ t _ ht).info
        rw [List.getElem?_map] at hf
        cases hfd : gs.toList[f]? with
        | none => simp [hfd] at hf
        | some fd =>
          simp only [hfd, Option.map_some, Option.some.injEq, Prod.mk.injEq] at hf
          obtain ⟨rfl, rfl⟩ := hf
          exact ⟨gs, fd, hu, by simpa using hfd, rfl, hΓ _ _ hg⟩
    · cases h
  · cases h

/-- A field's address. -/
theorem fieldAddr_ok (hΓ : GamOk P Γ) (h : StOk c w H ρ) {t : TypeId} {x v : AV} {f : Nat} {xv : Value} (hx : RV w (Avoid c.X H ρ) H ρ x xv) (ha : aFieldAddr Γ t x f H = some v) :
    Gives P c w H ρ (Instr.fieldAt t xv f) v [] := by
  unfold aFieldAddr at ha
  split at ha
  · rename_i off ti hf
    split at ha
    · cases ha
    rename_i hpos
    obtain ⟨gs, fd, hu, hg, rfl, hT⟩ := fieldOf_ok hΓ hf
    have hrun : ∀ ad, (Instr.fieldAt t (.pointer (some ad)) f).run P w = .ok (.pointer (some (ad.add fd.offset))) w := by
      intro ad
      simp [Instr.fieldAt, run_underlying hu, hg, Instr.sureAddr, fieldPlace, run_sizeOf hT, hpos]
    split at ha
    · rename_i o p
      split at ha
      · rename_i hl
        simp only [Option.some.injEq] at ha
        subst ha
        have hx' : PtrR (ASt.obj H o) (ρ o) p [xv] := hx
        cases hc : ((ASt.obj H o).get p).lay.comp f with
        | none => simp [hc] at hl
        | some y =>
          obtain ⟨o1, l1⟩ := y
          simp only [hc, Option.map_some, beq_iff_eq, Option.some.injEq] at hl
          subst hl
          obtain ⟨ad, rfl, hp⟩ := ptr_step h hx' (sub_comp hc)
          exact Gives.same h (hrun ad) hp
      · cases ha
    · rename_i s y
      split at ha
      · rename_i s' y' hc
        split at ha
        · rename_i hl
          simp only [Option.some.injEq] at ha
          subst ha
          obtain ⟨ad, L, hcs, hb, hA, hr, hcl⟩ := (hx : ∃ ad L, [xv] = [Value.pointer (some ad)] ∧ ad.block < w.heap.size ∧ ¬ Avoid c.X H ρ ad.block ∧ RepC w (Avoid c.X H ρ) s y L ∧ CellsAt w ad L)
          simp only [List.cons.injEq, and_true] at hcs
          subst hcs
          cases hcm : s.lay.comp f with
          | none => simp [hcm] at hl
          | some z =>
            obtain ⟨o1, l1⟩ := z
            simp only [hcm, Option.map_some, beq_iff_eq, Option.some.injEq] at hl
            subst hl
            obtain ⟨_, g2, _⟩ := comp_ok (H := H) (ρ := ρ) f (.dat s y) (hr : RX w (Avoid c.X H ρ) H ρ (.dat s y) true L) hcm
            rw [hc] at g2
            refine Gives.same h (hrun ad) ?_
            refine (⟨ad.add fd.offset, _, rfl, by rw [Addr.add_block]; exact hb, by rw [Addr.add_block]; exact hA, g2, ?_⟩ : RX w (Avoid c.X H ρ) H ρ (.vptr s' y') true [_])
            intro j u hu
            rw [addr_add_add]
            rw [List.getElem?_take] at hu
            split at hu
            · rw [List.getElem?_drop] at hu; exact hcl _ _ hu
            · cases hu
        · cases ha
      · cases ha
    · cases ha
  · cases ha

theorem run_part {t : TypeId} {ti : TI} (hT : TIOk P Γ t ti) {cs : List Value} {off : Nat} {v : AV} {A : Nat → Prop} (hv : RX w A H ρ v true ((cs.drop off).take v.cells)) (hc : v.cells = ti.cells) (hag : v.agg = ti.agg) (hin : off + v.cells ≤ cs.length) :
    ∃ val, (part t cs.toArray off).run P w = .ok val w ∧ RV w A H ρ v val := by
  refine ⟨_, ?_, rv_valOf hv⟩
  unfold part
  rw [Sem.run_bind, run_isAgg hT w]
  simp only [Result.andThen_ok, ← hag]
  cases ha : v.agg with
  | true =>
    simp [run_sizeOf hT, ← hc, valOf]
  | false =>
    have h1 := hT.one (by rw [← hag]; exact ha)
    rw [← hc] at h1
    rw [h1] at hin ⊢
    have : cs[off]? = some cs[off] := List.getElem?_eq_getElem (by omega)
    have e : (cs.drop off).take 1 = [cs[off]] := by rw [List.drop_eq_getElem_cons (by omega)]; rfl
    rw [e]
    simp [this, valOf]

theorem comp_agg {l : Lay} {k : Nat} {x : Nat × Lay} (h : l.comp k = some x) : l.agg = true := by
  cases l <;> first | rfl | (cases k <;> simp [Lay.comp] at h)

/-- A field of a struct. -/
theorem field_ok (hΓ : GamOk P Γ) (h : StOk c w H ρ) {t : TypeId} {x v : AV} {f : Nat} {xv : Value} (hx : RV w (Avoid c.X H ρ) H ρ x xv) (ha : aField Γ t x f = some v) :
    Gives P c w H ρ (Instr.field t xv f) v [] := by
  unfold aField at ha
  split at ha
  · rename_i off ti hf
    simp only at ha
    split at ha
    · rename_i hcond
      simp only [Option.some.injEq] at ha
      simp only [Bool.and_eq_true, beq_iff_eq] at hcond
      obtain ⟨⟨⟨hl, hs⟩, hcl⟩, hagg⟩ := hcond
      subst ha
      obtain ⟨gs, fd, hu, hg, rfl, hT⟩ := fieldOf_ok hΓ hf
      cases hc : x.lay.comp f with
      | none => simp [hc] at hl
      | some y =>
        obtain ⟨o1, l1⟩ := y
        simp only [hc, Option.map_some, Option.some.injEq] at hl
        subst hl
        have hag : x.agg = true := by rw [← AV.lay_agg]; exact comp_agg hc
        have hx' : ∃ cs, xv = .agg cs.toArray ∧ RX w (Avoid c.X H ρ) H ρ x true cs := by
          unfold RV at hx
          split at hx
          · simp [AV.agg] at hag
          · unfold RV1 at hx
            split at hx
            · simp [AV.agg] at hag
            · exact hx.elim
            · rw [if_pos hag] at hx; exact hx
        obtain ⟨cs, rfl, hr⟩ := hx'
        obtain ⟨g1, g2, g3⟩ := comp_ok f x hr hc
        have e1 : (x.comp f).cells = l1.cells := by rw [← AV.lay_cells, g1]
        rw [← e1] at g2 g3
        obtain ⟨val, hrun, hv⟩ := run_part hT g2 hcl hagg g3
        refine Gives.same h ?_ hv
        have hg' : gs[f]? = some fd := hg
        simp [Instr.field, run_underlying hu, hg', asAgg, hrun]
    · cases ha
  · cases ha
end
end Go.AI

/- Elements: their addresses, their values; stores. -/
noncomputable section
namespace Go.AI
open Go Go.RowKit

section
variable {P : Program} {Γ : Gam} {c : Ctx P} {w : World} {H H' : List AObj} {ρ : Rho} {o : Nat} {cur : List AV} {a : Act}

/-- The layout of an object that has elements. -/
theorem elems_lay (h : StOk c w H ρ) {o : Nat} {e : Elems} (he : (ASt.obj H o).elems = some e) : (ASt.obj H o).live = true ∧ (ASt.obj H o).lay = .arr e.xs.length e.s.lay := by
  have ho := h.obj o
  cases hob : ASt.obj H o with
  | gone => rw [hob] at he; simp [AObj.elems] at he
  | free => rw [hob] at he; simp [AObj.elems] at he
  | row E s xs fz =>
    rw [hob] at he
    simp only [AObj.elems, Option.some.injEq] at he
    subst he
    exact ⟨rfl, rfl⟩
  | oth x => rw [hob] at he; simp [AObj.elems] at he
  | box v =>
    rw [hob] at he ho
    obtain ⟨g, C, E, cur, _, _, _, h4, _, _⟩ := ho
    match v, he with
    | .dat (.arr n s) xs, he =>
      simp only [AObj.elems, Option.some.injEq] at he
      subst he
      refine ⟨rfl, ?_⟩
      have : xs.length = n := (h4 : RepC w (Avoid c.X H ρ) (.arr n s) xs _).1
      simp [AObj.lay, AV.lay, Sch.lay, this]

theorem arr_sub {n i : Nat} {l : Lay} (h : i < n) : (Lay.arr n l).sub i = some (i * l.cells, l) := by simp [Lay.sub, h]

theorem ite_some {α : Type} {p : Prop} [Decidable p] {a : Option α} {b : α} (h : (if p then a else none) = some b) : p ∧ a = some b := by
  split at h
  · rename_i hp; exact ⟨hp, h⟩
  · cases h

theorem array_ok (hΓ : GamOk P Γ) {t e : TypeId} {n cl : Nat} {sc : Option Sch} {q : Bool} (h : Γ.at_ t = some ⟨.array n e, cl, sc, q⟩) : P.underlying t = some (.array n e) := by
  obtain ⟨i, d, _, hu, _, hk⟩ := (hΓ t _ h).info
  have hd : d = .array n e := hk
  subst hd; exact hu
theorem slice_ty (hΓ : GamOk P Γ) {t e : TypeId} {cl : Nat} {sc : Option Sch} {q : Bool} (h : Γ.at_ t = some ⟨.slice e, cl, sc, q⟩) : P.underlying t = some (.slice e) := by
  obtain ⟨i, d, _, hu, _, hk⟩ := (hΓ t _ h).info
  have hd : d = .slice e := hk
  subst hd; exact hu

theorem run_indexSlice {t e : TypeId} {ti : TI} (hu : P.underlying t = some (.slice e)) (hT : TIOk P Γ e ti) {ad : Addr} {len cap : Nat} {k : IntKind} {i : Int} (h0 : 0 ≤ i) (h1 : i < len) :
    (Instr.indexAt t (.slice (some ad) len cap) (.int k i)).run P w = .ok (.pointer (some (ad.add (i.toNat * ti.cells)))) w := by
  have hc : 0 ≤ i ∧ i < (len : Int) := ⟨h0, h1⟩
  simp [Instr.indexAt, asIntOf, run_underlying hu, run_sizeOf hT, hc]
theorem run_indexArray {t e : TypeId} {ti : TI} {len : Nat} (hu : P.underlying t = some (.array len e)) (hT : TIOk P Γ e ti) {ad : Addr} {k : IntKind} {i : Int} (h0 : 0 ≤ i) (h1 : i < len) :
    (Instr.indexAt t (.pointer (some ad)) (.int k i)).run P w = .ok (.pointer (some (ad.add (i.toNat * ti.cells)))) w := by
  have hc : 0 ≤ i ∧ i < (len : Int) := ⟨h0, h1⟩
  simp [Instr.indexAt, asIntOf, run_underlying hu, run_sizeOf hT, hc, Instr.sureAddr]

theorem at_mem {s : Sch} {A : Nat → Prop} {xs : List s.T} {L : List Value} {ad : Addr} (hr : RepL (RepC w A s) xs L) (hc : CellsAt w ad L) {i : Nat} (hi : i < xs.length) :
    RepC w A s (xs.getD i s.dflt) ((L.drop (i * s.cells)).take s.cells) ∧ CellsAt w (ad.add (i * s.cells)) ((L.drop (i * s.cells)).take s.cells) := by
  refine ⟨?_, ?_⟩
  · refine RepL.at_ (fun x c => RepC.length s) hr ?_
    simp [List.getD, List.getElem?_eq_getElem hi]
  · intro j u hu
    rw [addr_add_add]
    rw [List.getElem?_take] at hu
    split at hu
    · rw [List.getElem?_drop] at hu; exact hc _ _ hu
    · cases hu

/-- An element's address. -/
theorem indexAddr_ok (hΓ : GamOk P Γ) (h : StOk c w H ρ) {t : TypeId} {x i v : AV} {xv iv : Value} {U : Upd} (hx : RV w (Avoid c.X H ρ) H ρ x xv) (hi : RV w (Avoid c.X H ρ) H ρ i iv) (ha : aIndexAddr Γ t x i H = some (true, v, U)) :
    Gives P c w H ρ (Instr.indexAt t xv iv) v U := by
  unfold aIndexAddr at ha
  split at ha
  · rename_i k y
    obtain ⟨rfl, _⟩ := RV.int hi
    simp only at ha
    generalize hz : toI k y = z at *
    have fits : ∀ {e : TypeId} {s : Sch}, (match Γ.at_ e with | some ti => ti.cells == s.cells | none => false) = true → ∃ ti, TIOk P Γ e ti ∧ ti.cells = s.cells := by
      intro e s hf
      split at hf
      · rename_i ti hti; exact ⟨ti, hΓ e ti hti, by simpa using hf⟩
      · cases hf
    have row : ∀ {e : TypeId} {o off : Nat} {len : Option Nat} {el : Elems}, P.underlying t = some (.slice e) → (ASt.obj H o).elems = some el → SlR H ρ o off len [xv] →
        (∃ ti, TIOk P Γ e ti ∧ ti.cells = el.s.cells) → 0 ≤ z → z < ((len.getD el.xs.length : Nat) : Int) → Gives P c w H ρ (Instr.indexAt t xv (.int k z)) (.ptr o [off + z.toNat]) [] := by
      intro e o off len el hu he hs ⟨ti, hT, hcl⟩ h0 h1
      obtain ⟨hlive, hlay⟩ := elems_lay h he
      obtain ⟨_, hs⟩ := hs
      simp only [he] at hs
      obtain ⟨ad, cap, hval, g1, g2, g3, g4⟩ := hs
      simp only [List.cons.injEq, and_true] at hval
      subst hval
      cases hr : ρ o with
      | none => rw [hr] at g4; simp only at g4; omega
      | some gC =>
        rw [hr] at g4
        simp only at g4
        rcases g4.2 with g5 | g5
        · omega
        subst g5
        refine Gives.same h (run_indexSlice hu hT h0 h1) ?_
        rw [add_lit, hcl, ← Nat.add_mul]
        refine (.inr ⟨hlive, gC.1, gC.2, (off + z.toNat) * el.s.cells, el.s.lay, ?_, hr, rfl⟩ : PtrR (ASt.obj H o) (ρ o) [off + z.toNat] [_])
        rw [hlay]
        simp only [Lay.at_, arr_sub (show off + z.toNat < el.xs.length by omega), Option.bind_some, Option.map_some, Nat.add_zero, Sch.lay_cells]
    have vrow : ∀ {e : TypeId} {s : Sch} {xs : List s.T}, P.underlying t = some (.slice e) → RepC w (Avoid c.X H ρ) (.slc s) xs [xv] → (∃ ti, TIOk P Γ e ti ∧ ti.cells = s.cells) → 0 ≤ z → z < (xs.length : Int) →
        Gives P c w H ρ (Instr.indexAt t xv (.int k z)) (.vptr s (xs.getD z.toNat s.dflt)) [] := by
      intro e s xs hu hr ⟨ti, hT, hcl⟩ h0 h1
      obtain ⟨ad, cap, hval, g1, g2, g3⟩ := hr
      simp only [List.cons.injEq, and_true] at hval
      subst hval
      rcases g3 with g3 | ⟨b, L, rfl, hb, hA, hL, hc⟩
      · subst g3; simp at h1; omega
      obtain ⟨k1, k2⟩ := at_mem hL hc (i := z.toNat) (by omega)
      refine Gives.same h (run_indexSlice hu hT h0 h1) ?_
      rw [hcl]
      exact (⟨_, _, rfl, by rw [Addr.add_block]; exact hb, by rw [Addr.add_block]; exact hA, k1, k2⟩ : RX w (Avoid c.X H ρ) H ρ (.vptr s (xs.getD z.toNat s.dflt)) true [_])
    split at ha
    · rename_i e cl sc q ht
      have hu := slice_ty hΓ ht
      split at ha
      · rename_i o
        split at ha
        · rename_i el he
          obtain ⟨hf, ha⟩ := ite_some ha
          simp only [Option.some.injEq, Prod.mk.injEq, Bool.and_eq_true, decide_eq_true_eq] at ha
          obtain ⟨⟨h0, h1⟩, rfl, rfl⟩ := ha
          have := row (off := 0) (len := none) hu he hx (fits hf) h0 h1
          rwa [Nat.zero_add] at this
        · cases ha
      · rename_i o off len
        split at ha
        · rename_i el he
          obtain ⟨hf, ha⟩ := ite_some ha
          simp only [Option.some.injEq, Prod.mk.injEq, Bool.and_eq_true, decide_eq_true_eq] at ha
          obtain ⟨⟨h0, h1⟩, rfl, rfl⟩ := ha
          exact row (off := off) (len := some len) hu he hx (fits hf) h0 h1
        · cases ha
      · rename_i s xs
        obtain ⟨hf, ha⟩ := ite_some ha
        simp only [Option.some.injEq, Prod.mk.injEq, Bool.and_eq_true, decide_eq_true_eq] at ha
        obtain ⟨⟨h0, h1⟩, rfl, rfl⟩ := ha
        exact vrow hu hx (fits hf) h0 h1
      · rename_i s xs
        obtain ⟨hf, ha⟩ := ite_some ha
        simp only [Option.some.injEq, Prod.mk.injEq, Bool.and_eq_true, decide_eq_true_eq] at ha
        obtain ⟨⟨h0, h1⟩, rfl, rfl⟩ := ha
        obtain ⟨_, _, hr⟩ := (hx : ∃ ad, [xv] = [Value.slice ad xs.length xs.length] ∧ RepC w (Avoid c.X H ρ) (.slc s) xs [xv])
        exact vrow hu hr (fits hf) h0 h1
      · cases ha
    · rename_i len e cl sc q ht
      have hu := array_ok hΓ ht
      split at ha
      · rename_i o p
        split at ha
        · rename_i m s xs hg
          obtain ⟨hf, ha⟩ := ite_some ha
          · simp only [Bool.and_eq_true, beq_iff_eq] at hf
            obtain ⟨hf, rfl⟩ := hf
            obtain ⟨ti, hT, hcl⟩ := fits hf
            simp only [Option.some.injEq, Prod.mk.injEq, Bool.and_eq_true, decide_eq_true_eq] at ha
            obtain ⟨⟨h0, h1⟩, rfl, rfl⟩ := ha
            obtain ⟨ad, rfl, hp⟩ := ptr_step h (hx : PtrR (ASt.obj H o) (ρ o) p [xv]) (i := z.toNat) (off := z.toNat * s.lay.cells) (l := s.lay) (by rw [hg]; exact arr_sub (by omega))
            refine Gives.same h (run_indexArray hu hT h0 h1) ?_
            rw [hcl, ← Sch.lay_cells]
            exact hp
        · rename_i fs hg
          obtain ⟨hf, ha⟩ := ite_some ha
          · simp only [Bool.and_eq_true, beq_iff_eq] at hf
            obtain ⟨hf, rfl⟩ := hf
            obtain ⟨ti, hT, hcl⟩ := fits hf
            simp only [Option.some.injEq, Prod.mk.injEq, Bool.and_eq_true, decide_eq_true_eq] at ha
            obtain ⟨⟨h0, h1⟩, rfl, rfl⟩ := ha
            obtain ⟨ad, rfl, hp⟩ := ptr_step h (hx : PtrR (ASt.obj H o) (ρ o) p [xv]) (i := z.toNat) (off := z.toNat * Lay.one.cells) (l := .one) (by
              rw [hg]
              show (if z.toNat < fs.length then some (z.toNat * Lay.one.cells, Lay.one) else none) = _
              rw [if_pos (by omega)])
            refine Gives.same h (run_indexArray hu hT h0 h1) ?_
            rw [hcl]
            exact hp
        · cases ha
      · rename_i m s xs
        obtain ⟨hf, ha⟩ := ite_some ha
        · simp only [Bool.and_eq_true, beq_iff_eq] at hf
          obtain ⟨hf, rfl⟩ := hf
          obtain ⟨ti, hT, hcl⟩ := fits hf
          simp only [Option.some.injEq, Prod.mk.injEq, Bool.and_eq_true, decide_eq_true_eq] at ha
          obtain ⟨⟨h0, h1⟩, rfl, rfl⟩ := ha
          obtain ⟨ad, L, hcs, hb, hA, hr, hc⟩ := (hx : ∃ ad L, [xv] = [Value.pointer (some ad)] ∧ ad.block < w.heap.size ∧ ¬ Avoid c.X H ρ ad.block ∧ RepC w (Avoid c.X H ρ) (.arr m s) xs L ∧ CellsAt w ad L)
          simp only [List.cons.injEq, and_true] at hcs
          subst hcs
          obtain ⟨hm, hL⟩ := hr
          obtain ⟨k1, k2⟩ := at_mem hL hc (i := z.toNat) (by omega)
          refine Gives.same h (run_indexArray hu hT h0 h1) ?_
          rw [hcl]
          exact (⟨_, _, rfl, by rw [Addr.add_block]; exact hb, by rw [Addr.add_block]; exact hA, k1, k2⟩ : RX w (Avoid c.X H ρ) H ρ (.vptr s (xs.getD z.toNat s.dflt)) true [_])
      · cases ha
    · cases ha
  · cases ha

/-- An element. -/
theorem index_ok (hΓ : GamOk P Γ) (h : StOk c w H ρ) {t : TypeId} {x i v : AV} {xv iv : Value} (hx : RV w (Avoid c.X H ρ) H ρ x xv) (hi : RV w (Avoid c.X H ρ) H ρ i iv) (ha : aIndex Γ t x i = some (true, v)) :
    Gives P c w H ρ (Instr.index t xv iv) v [] := by
  unfold aIndex at ha
  split at ha
  · rename_i k y
    obtain ⟨rfl, _⟩ := RV.int hi
    simp only at ha
    generalize hz : toI k y = z at *
    split at ha
    · rename_i b
      split at ha
      · rename_i ht
        simp only [Option.some.injEq, Prod.mk.injEq, Bool.and_eq_true, decide_eq_true_eq] at ha
        obtain ⟨⟨h0, h1⟩, rfl⟩ := ha
        obtain ⟨rfl, _⟩ := RV.str hx
        have hty : P.underlying t = some .string := by
          simp only [Gam.sch, beq_iff_eq] at ht
          cases hg : Γ.at_ t with
          | none => simp [hg] at ht
          | some ti => simp only [hg, Option.bind_some] at ht; exact ((hΓ t ti hg).sch _ ht).1.2
        have hlt : z.toNat < b.length := by omega
        have hget : (⟨b.toArray⟩ : ByteArray)[z.toNat]? = some (b[z.toNat]'hlt) := by
          have hs : z.toNat < (⟨b.toArray⟩ : ByteArray).size := by simpa [ByteArray.size] using hlt
          rw [getElem?_pos (⟨b.toArray⟩ : ByteArray) z.toNat hs]
          simp [ByteArray.getElem_eq_getElem_data]
        refine Gives.same h (val := .int .u8 (b[z.toNat]).toNat) ?_ ?_
        · simp [Instr.index, asIntOf, run_underlying hty, h0, hget]
        · have e : b.getD z.toNat 0 = b[z.toNat] := by simp [List.getD, List.getElem?_eq_getElem hlt]
          rw [e]
          exact RV.mk_int (k := .u8) (a := b[z.toNat]) (by
            have := (b[z.toNat]).toNat_lt
            simp [Lit.wf, toI, IntKind.min, IntKind.max, IntKind.signed, IntKind.bits]; omega)
      · cases ha
    · rename_i m s xs
      split at ha
      · rename_i len e cl sc q ht
        split at ha
        · rename_i ti hti
          split at ha
          · rename_i hf
            simp only [Bool.and_eq_true, beq_iff_eq] at hf
            obtain ⟨⟨hcl, hag⟩, rfl⟩ := hf
            simp only [Option.some.injEq, Prod.mk.injEq, Bool.and_eq_true, decide_eq_true_eq] at ha
            obtain ⟨⟨h0, h1⟩, rfl⟩ := ha
            have hu := array_ok hΓ ht
            have hT := hΓ e ti hti
            obtain ⟨cs, rfl, hm, hL⟩ := (hx.dat_ : ∃ cs, xv = .agg cs.toArray ∧ RepC w (Avoid c.X H ρ) (.arr m s) xs cs)
            have hlt : z.toNat < xs.length := by omega
            have hlen := RepL.length (fun x c => RepC.length s) hL
            have hel := RepL.at_ (fun x c => RepC.length s) hL (i := z.toNat) (x := xs.getD z.toNat s.dflt) (by simp [List.getD, List.getElem?_eq_getElem hlt])
            have hin : z.toNat * s.cells + s.cells ≤ cs.length := by
              have := Nat.mul_le_mul_right s.cells (show z.toNat + 1 ≤ xs.length by omega)
              rw [Nat.add_mul, Nat.one_mul] at this
              omega
            obtain ⟨val, hrun, hv⟩ := run_part (P := P) (Γ := Γ) (w := w) (H := H) (ρ := ρ) (A := Avoid c.X H ρ) hT (cs := cs) (off := z.toNat * s.cells) (v := .dat s (xs.getD z.toNat s.dflt)) hel hcl.symm hag.symm hin
            have hc : 0 ≤ z ∧ z < (m : Int) := ⟨h0, h1⟩
            refine Gives.same h ?_ hv
            simp [Instr.index, asIntOf, run_underlying hu, run_sizeOf hT, hc, hcl, hrun]
          · cases ha
        · cases ha
      · cases ha
    · cases ha
  · cases ha

/-- A store. -/
theorem store_ok (hΓ : GamOk P Γ) (h : StOk c w H ρ) {t : TypeId} {x u v : AV} {xv uv : Value} {U : Upd} (hx : RV w (Avoid c.X H ρ) H ρ x xv) (hu : RV w (Avoid c.X H ρ) H ρ u uv) (ha : aStore Γ t x u H = some (true, v, U)) :
    v = .dead ∧ ∃ w', (Instr.storeAt t xv uv).run P w = .ok () w' ∧ Tr c w H ρ w' (upd H U) ρ := by
  unfold aStore at ha
  cases hti : Γ.at_ t with
  | none => simp [hti] at ha
  | some ti =>
    simp only [hti] at ha
    split at ha
    · rename_i o p
      split at ha
      · rename_i hcond
        simp only [Bool.and_eq_true, beq_iff_eq] at hcond
        obtain ⟨hus, huc⟩ := hcond
        have hurx := RV.cells hus hu
        split at ha
        · rename_i ob hp
          simp only [Option.some.injEq, Prod.mk.injEq, true_and] at ha
          obtain ⟨rfl, rfl⟩ := ha
          obtain ⟨w', hrun, hT⟩ := put_in hΓ h hti hx hurx hus huc hp
          exact ⟨rfl, w', hrun, hT⟩
        · split at ha
          · rename_i s hsc
            split at ha
            · rename_i y V hy
              split at ha
              · cases ha
              · rename_i hno
                split at ha
                · rename_i ob hp
                  simp only [Option.some.injEq, Prod.mk.injEq, true_and] at ha
                  obtain ⟨rfl, rfl⟩ := ha
                  obtain ⟨rfl, T1, hrep, hoth⟩ := asPlain_ok h hurx hy
                  have hno' : o ∉ u.refs := by simpa using hno
                  have ho := hoth o hno'
                  have hp' : (ASt.obj (upd H (freezes H u)) o).put p (.dat s y) = some ob := by rw [ho]; exact hp
                  have hsl : (AV.dat s y).cells = ti.cells := by
                    have e1 := RepC.length s hrep
                    have e2 := hurx.len
                    rw [AV.lay_cells, huc] at e2
                    show s.cells = _
                    omega
                  obtain ⟨w', hrun, hT⟩ := put_in hΓ T1.ok hti (T1.rv hx) (u := .dat s y) (uv := uv) hrep rfl hsl hp'
                  refine ⟨rfl, w', hrun, ?_⟩
                  have e : upd H (freezes H u ++ [(o, ob)]) = (upd H (freezes H u)).set o ob := by simp [upd]
                  rw [e]
                  exact T1.trans hT
                · cases ha
            · cases ha
          · cases ha
      · cases ha
    · cases ha
end
end Go.AI

/- The small operations. -/
noncomputable section
namespace Go.AI
open Go Go.RowKit

section
variable {P : Program} {Γ : Gam} {c : Ctx P} {w : World} {H H' : List AObj} {ρ : Rho} {o : Nat} {cur : List AV} {a : Act}

theorem sch_ok (hΓ : GamOk P Γ) {t : TypeId} {s : Sch} (h : Γ.sch t = some s) : SchOk P t s := by
  unfold Gam.sch at h
  cases hg : Γ.at_ t with
  | none => simp [hg] at h
  | some ti => simp only [hg, Option.bind_some] at h; exact ((hΓ t ti hg).sch _ h).1

theorem ty_ok (hΓ : GamOk P Γ) {t : TypeId} (h : (Γ.at_ t).isNone = false) : ∃ d, P.underlying t = some d := by
  cases hg : Γ.at_ t with
  | none => simp [hg] at h
  | some ti =>
    obtain ⟨_, d, _, hu, _⟩ := (hΓ t ti hg).info
    exact ⟨d, hu⟩

theorem wf_i64 {n : Nat} (h : n ≤ maxLen) : (Lit.int .i64 (n : Int)).wf = true := by
  simp only [maxLen] at h
  simp [Lit.wf, IntKind.min, IntKind.max, IntKind.signed, IntKind.bits]; omega

/-- len. -/
theorem len_ok (hΓ : GamOk P Γ) (h : StOk c w H ρ) {t ty : TypeId} {x : AV} {xv : Value} {n : Nat} (hx : RV w (Avoid c.X H ρ) H ρ x xv) (ht : lenTy Γ t x = true) (hn : lenOf H x = some n) :
    Gives P c w H ρ (Builtin.len_ #[t] ty #[xv]) (.dat (.int .i64) (n : Int)) [] := by
  have hres : n ≤ maxLen → RV w (Avoid c.X H ρ) H ρ (.dat (.int .i64) (n : Int)) (.int .i64 n) := fun hm => RV.mk_int (k := .i64) (a := (n : Int)) (wf_i64 hm)
  rcases lenOf_ok h hx hn with ⟨b, rfl, rfl, rfl, hm⟩ | ⟨ad, cap, rfl, hm, _⟩
  · have hty : P.underlying t = some .string := (sch_ok hΓ (by simpa [lenTy] using ht) : SchOk P t .str).2
    refine Gives.same h ?_ (hres hm)
    have hsz : (⟨b.toArray⟩ : ByteArray).size = b.length := by simp [ByteArray.size]
    simp only [Builtin.len_, List.getElem?_toArray, List.getElem?_cons_zero, Sem.run_bind, run_underlying hty, Result.andThen_ok, goInt, hsz]
    rfl
  · have hty : ∃ e, P.underlying t = some (.slice e) := by
      unfold lenTy at ht
      split at ht
      · exfalso
        obtain ⟨h1, _⟩ := RV.str hx
        cases h1
      · split at ht
        · rename_i e cl sc q hg
          exact ⟨e, slice_ty hΓ hg⟩
        · cases ht
    obtain ⟨e, hty⟩ := hty
    refine Gives.same h ?_ (hres hm)
    simp [Builtin.len_, run_underlying hty, goInt]

theorem run_eqGuard {op : BinOp} {t : TypeId} {xo yo : Operand} {p q : Value} (h1 : ∀ A, p ≠ .agg A) (h2 : p ≠ .nilIface) : (eqGuard op t xo yo p q).run P w = .ok () w := by
  unfold eqGuard
  split <;> first
    | rfl
    | (simp only [Bool.not_true, Bool.false_eq_true, if_false]
       split
       · exact absurd rfl h2
       · exact absurd rfl (h1 _)
       · rfl)

theorem run_equal_bool {t : TypeId} (hty : P.underlying t = some .bool) (a b : Bool) : (Op.equal t (.bool a) (.bool b)).run P w = .ok (a == b) w := by
  show (Op.equalIn (9999 + 1) t (.bool a) (.bool b)).run P w = _
  rw [Op.equalIn, Sem.run_bind, run_underlying hty]
  rfl

/-- A scalar that is built of two. -/
theorem binOp_ok (hΓ : GamOk P Γ) (h : StOk c w H ρ) {op : BinOp} {t : TypeId} {x y v : AV} {xo yo : Operand} {xv yv : Value} (hx : RV w (Avoid c.X H ρ) H ρ x xv) (hy : RV w (Avoid c.X H ρ) H ρ y yv) (ha : aBin Γ t op x y = some (true, v)) :
    Gives P c w H ρ (do eqGuard op t xo yo xv yv; binOp op t xv yv) v [] := by
  have hg : ∀ {p q : Value}, (∀ A, p ≠ .agg A) → p ≠ .nilIface → (eqGuard op t xo yo p q).run P w = .ok () w := fun h1 h2 => run_eqGuard h1 h2
  unfold aBin at ha
  split at ha
  · rename_i k a j b
    obtain ⟨rfl, wa⟩ := RV.int hx
    obtain ⟨rfl, wb⟩ := RV.int hy
    have hgd := hg (p := .int k (toI k a)) (q := .int j (toI j b)) (by simp) (by simp)
    have key : ∀ {val : Value}, (binOp op t (.int k (toI k a)) (.int j (toI j b))).run P w = .ok val w → (do eqGuard op t xo yo (.int k (toI k a)) (.int j (toI j b)); binOp op t (.int k (toI k a)) (.int j (toI j b)) : Sem Value).run P w = .ok val w := by
      intro val hb
      simp [hgd, hb]
    split at ha
    · simp only [Option.some.injEq, Prod.mk.injEq] at ha
      obtain ⟨hn, rfl⟩ := ha
      obtain ⟨val, h1, h2⟩ := (shift_ok (P := P) (w := w) (op := .shl) wa wb hn t).1 rfl
      exact Gives.same h (key h1) (h2 _ _ _)
    · simp only [Option.some.injEq, Prod.mk.injEq] at ha
      obtain ⟨hn, rfl⟩ := ha
      obtain ⟨val, h1, h2⟩ := (shift_ok (P := P) (w := w) (op := .shr) wa wb hn t).2 rfl
      exact Gives.same h (key h1) (h2 _ _ _)
    · split at ha
      · rename_i hjk
        subst hjk
        obtain ⟨val, h1, h2⟩ := intBin_ok (P := P) (w := w) wa wb ha rfl t
        exact Gives.same h (key h1) (h2 _ _ _)
      · cases ha
  · rename_i a b
    obtain ⟨rfl, _⟩ := RV.str hx
    obtain ⟨rfl, _⟩ := RV.str hy
    have hgd := hg (p := .string ⟨a.toArray⟩) (q := .string ⟨b.toArray⟩) (by simp) (by simp)
    unfold strBin at ha
    split at ha
    · simp only [Option.some.injEq, Prod.mk.injEq, true_and] at ha
      subst ha
      refine Gives.same h (val := .bool (a == b)) ?_ (RV.mk_bool _)
      simp [hgd, binOp, Op.stringOp]
    · simp only [Option.some.injEq, Prod.mk.injEq, true_and] at ha
      subst ha
      refine Gives.same h (val := .bool (!(a == b))) ?_ (RV.mk_bool _)
      simp [hgd, binOp, Op.stringOp]
    · cases ha
  · rename_i a b
    obtain rfl := RV.bool hx
    obtain rfl := RV.bool hy
    have hgd := hg (p := .bool a) (q := .bool b) (by simp) (by simp)
    obtain ⟨ht, ha⟩ := ite_some ha
    have hty : P.underlying t = some .bool := (sch_ok hΓ (by simpa using ht) : SchOk P t .bool).2
    split at ha
    · simp only [Option.some.injEq, Prod.mk.injEq, true_and] at ha
      subst ha
      refine Gives.same h (val := .bool (a == b)) ?_ (RV.mk_bool _)
      simp [hgd, binOp, run_equal_bool hty]
    · simp only [Option.some.injEq, Prod.mk.injEq, true_and] at ha
      subst ha
      refine Gives.same h (val := .bool (!(a == b))) ?_ (RV.mk_bool _)
      simp [hgd, binOp, run_equal_bool hty]
    · cases ha
  · rename_i s a s' b _ _ _
    split at ha
    · rename_i hs
      subst hs
      split at ha
      · rename_i hm
        unfold mayEq at hm
        split at hm
        · rename_i ti hti
          simp only [Bool.and_eq_true, beq_iff_eq] at hm
          obtain ⟨hagg, he⟩ := (hΓ t ti hti).eq hm.1 s' hm.2
          have open_ : ∀ {z : s'.T} {zv : Value}, RV w (Avoid c.X H ρ) H ρ (.dat s' z) zv → ∃ cs, zv = .agg cs.toArray ∧ RepC w (Avoid c.X H ρ) s' z cs := by
            intro z zv hz
            have hz' : (if s'.agg then ∃ cs, zv = .agg cs.toArray ∧ RepC w (Avoid c.X H ρ) s' z cs else RepC w (Avoid c.X H ρ) s' z [zv]) := hz
            rw [if_pos hagg] at hz'
            exact hz'
          obtain ⟨cs, rfl, h1⟩ := open_ hx
          obtain ⟨ds, rfl, h2⟩ := open_ hy
          obtain ⟨e1, e2⟩ := he w _ _ _ _ _ h1 h2
          split at ha
          · simp only [Option.some.injEq, Prod.mk.injEq, true_and] at ha
            subst ha
            refine Gives.same h (val := .bool (beqT s' a b)) ?_ (RV.mk_bool _)
            simp [e2, binOp, e1]
          · simp only [Option.some.injEq, Prod.mk.injEq, true_and] at ha
            subst ha
            refine Gives.same h (val := .bool (!(beqT s' a b))) ?_ (RV.mk_bool _)
            simp [e2, binOp, e1]
          · cases ha
        · cases hm
      · cases ha
    · cases ha
  · cases ha

/-- A scalar that is built of one. -/
theorem unOp_ok (h : StOk c w H ρ) {op : UnOp} {x v : AV} {xv : Value} (hx : RV w (Avoid c.X H ρ) H ρ x xv) (ha : aUn op x = some v) : Gives P c w H ρ (Op.unary op xv) v [] := by
  unfold aUn at ha
  split at ha
  · rename_i k a
    obtain ⟨rfl, _⟩ := RV.int hx
    simp only [Option.some.injEq] at ha
    subst ha
    exact Gives.same h (by simp [Op.unary, Op.intArith]) (RV.mk_wrap k _)
  · rename_i k a
    obtain ⟨rfl, _⟩ := RV.int hx
    simp only [Option.some.injEq] at ha
    subst ha
    exact Gives.same h (by simp [Op.unary, Op.intBits]) (RV.mk_wrap k _)
  · rename_i b
    obtain rfl := RV.bool hx
    simp only [Option.some.injEq] at ha
    subst ha
    exact Gives.same h (by simp [Op.unary]) (RV.mk_bool _)
  · cases ha

/-- A new variable. -/
theorem box_ok (h : StOk c w H ρ) {t : TypeId} {x : AV} {xv : Value} {nid : Nat} {U : Upd} (hx : RX w (Avoid c.X H ρ) H ρ x true xv.cells.toList) (hs : x.stands = true) (hm : ∀ e, (AObj.box x).elems = some e → e.xs.length ≤ maxLen) (hU : newObj? H nid (.box x) = some U) :
    Gives P c w H ρ (do pure (.pointer (some (← newVar t xv)))) (.ptr nid []) U := by
  obtain ⟨hnl, hfree, rfl⟩ := newObj_some hU
  let C := match (AObj.box x).elems with | some e => e.xs.length | none => 0
  have T := Tr.alloc h hnl hfree (ob := .box x) (cur := xv.cells) (E := t) (fr := (0, 0)) (C := C) (.inl rfl) ⟨hx, hs, fun e he => ⟨by simp [C, he], by simp [C, he]; exact hm e he⟩⟩
  refine ⟨.pointer (some ⟨w.heap.size, 0, none⟩), _, _, ?_, ?_, T⟩
  · simp [newVar, newRow]
  · refine (.inr ⟨?_, w.heap.size, C, 0, x.lay, ?_, updR_same _ _, rfl⟩ : PtrR _ _ [] [_])
    · show (ASt.obj (H.set nid (.box x)) nid).live = true
      rw [obj_set_same hnl]; rfl
    · show (ASt.obj (H.set nid (.box x)) nid).lay.at_ [] = _
      rw [obj_set_same hnl]; rfl
end
end Go.AI

/- Tuples, functions, conversions, copies. -/
noncomputable section
namespace Go.AI
open Go Go.RowKit

section
variable {P : Program} {Γ : Gam} {c : Ctx P} {w : World} {H H' : List AObj} {ρ : Rho} {o : Nat} {cur : List AV} {a : Act}

theorem RV1.rv {A : Nat → Prop} {v : AV} {val : Value} (h : RV1 (RX w A H ρ v) v val) : RV w A H ρ v val := by
  unfold RV
  split
  · exact h.elim
  · exact h
theorem RV.rv1 {A : Nat → Prop} {v : AV} {val : Value} (ht : v.isTup = false) (h : RV w A H ρ v val) : RV1 (RX w A H ρ v) v val := by
  unfold RV at h
  split at h
  · simp [AV.isTup] at ht
  · exact h

/-- A part of a tuple. -/
theorem chain_comp {A : Nat → Prop} : ∀ (i : Nat) (v : AV) {vs : List Value}, RX w A H ρ v false vs → v.comp i ≠ .dead → ∃ val, vs[i]? = some val ∧ RV w A H ρ (v.comp i) val
  | 0, .pr x y, vs, h, _ => by
    obtain ⟨val, r, rfl, h1, _⟩ := h
    exact ⟨val, rfl, h1.rv⟩
  | i + 1, .pr x y, vs, h, hd => by
    obtain ⟨val, r, rfl, _, h2⟩ := h
    obtain ⟨u, e1, e2⟩ := chain_comp i y h2 hd
    exact ⟨u, by simpa using e1, e2⟩
  | i, .un, vs, h, hd => by cases i <;> exact absurd rfl hd
  | _, .dat _ _, _, h, _ => h.elim
  | _, .slx _ _, _, h, _ => h.elim
  | _, .nils, _, h, _ => h.elim
  | _, .emp, _, h, _ => h.elim
  | _, .row _, _, h, _ => h.elim
  | _, .sl _ _ _, _, h, _ => h.elim
  | _, .vptr _ _, _, h, _ => h.elim
  | _, .ptr _ _, _, h, _ => h.elim
  | _, .fn _ _, _, h, _ => h.elim
  | _, .nilfn, _, h, _ => h.elim
  | _, .hnd _ _, _, h, _ => h.elim
  | _, .mv _ _, _, h, _ => h.elim
  | _, .ifc _, _, h, _ => h.elim
  | _, .nilp, _, h, _ => h.elim
  | _, .nilm, _, h, _ => h.elim
  | _, .fns _, _, h, _ => h.elim
  | _, .fsel _ _, _, h, _ => h.elim
  | _, .pk _ _, _, h, _ => h.elim
  | _, .tup _, _, h, _ => h.elim
  | _, .dead, _, h, _ => h.elim

theorem extract_ok (h : StOk c w H ρ) {x : AV} {xv : Value} {i : Nat} (hx : RV w (Avoid c.X H ρ) H ρ (.tup x) xv) (hd : x.comp i ≠ .dead) : Gives P c w H ρ (Instr.extract xv i) (x.comp i) [] := by
  obtain ⟨vs, rfl, hr⟩ := (hx : ∃ vs : List Value, xv = .tuple vs.toArray ∧ RX w (Avoid c.X H ρ) H ρ x false vs)
  obtain ⟨val, h1, h2⟩ := chain_comp i x hr hd
  exact Gives.same h (by simp [Instr.extract, h1]) h2

/-- Values one behind the other. -/
theorem chain_ok {A : Nat → Prop} : ∀ (vs : List AV) (us : List Value), vs.length = us.length → (∀ (i : Nat) (v : AV) (u : Value), vs[i]? = some v → us[i]? = some u → RV w A H ρ v u) → (∀ v, v ∈ vs → v.isTup = false) → RX w A H ρ (vs.foldr .pr .un) false us
  | [], [], _, _, _ => rfl
  | [], _ :: _, h, _, _ => by simp at h
  | _ :: _, [], h, _, _ => by simp at h
  | v :: vs, u :: us, h, hr, ht =>
    ⟨u, us, rfl, (hr 0 v u rfl rfl).rv1 (ht v List.mem_cons_self), chain_ok vs us (by simpa using h) (fun i x y hx hy => hr (i + 1) x y (by simpa using hx) (by simpa using hy)) (fun x hx => ht x (List.mem_cons_of_mem _ hx))⟩

/-- A function with its first arguments. -/
theorem makeMv_ok (h : StOk c w H ρ) (hfr : FrOk w (Avoid c.X H ρ) H ρ cur a.tmps) {f : FuncId} {first caps : Array Operand} (h0 : caps.size = 0) (ht : ∀ x, x ∈ first.toList → (opnd cur x).isTup = false) :
    Gives P c w H ρ (Instr.makeFunc (.func f) (first.map a.eval) (caps.map a.eval)) (.mv f (first.toList.foldr (fun x r => .pr (opnd cur x) r) .un)) [] := by
  have e1 : caps = #[] := Array.eq_empty_of_size_eq_zero h0
  subst e1
  refine Gives.same h (val := .func (.func f) (first.toList.map a.eval).toArray #[]) (by
    have e2 : first.map a.eval = (first.toList.map a.eval).toArray := by apply Array.ext'; simp
    simp [Instr.makeFunc, e2]) ?_
  refine (⟨_, rfl, ?_⟩ : RX w (Avoid c.X H ρ) H ρ (.mv f _) true [_])
  have e : first.toList.foldr (fun x r => AV.pr (opnd cur x) r) .un = (first.toList.map (opnd cur)).foldr .pr .un := by rw [List.foldr_map]
  rw [e]
  refine chain_ok _ _ (by simp) (fun i v u hv hu => ?_) (fun v hv => ?_)
  · rw [List.getElem?_map] at hv hu
    cases hx : first.toList[i]? with
    | none => rw [hx] at hv; cases hv
    | some x =>
      rw [hx] at hv hu
      simp only [Option.map_some, Option.some.injEq] at hv hu
      subst hv; subst hu
      exact opnd_ok hfr x
  · obtain ⟨x, hx, rfl⟩ := List.mem_map.1 hv
    exact ht x hx

theorem makeFunc_ok (h : StOk c w H ρ) (hfr : FrOk w (Avoid c.X H ρ) H ρ cur a.tmps) {f : FuncId} {first caps : Array Operand} (h0 : first.size = 0) (ht : ∀ x, x ∈ caps.toList → (opnd cur x).isTup = false) :
    Gives P c w H ρ (Instr.makeFunc (.func f) (first.map a.eval) (caps.map a.eval)) (.fn f (caps.toList.foldr (fun x r => .pr (opnd cur x) r) .un)) [] := by
  have e1 : first = #[] := Array.eq_empty_of_size_eq_zero h0
  subst e1
  refine Gives.same h (val := .func (.func f) #[] (caps.toList.map a.eval).toArray) (by
    have e2 : caps.map a.eval = (caps.toList.map a.eval).toArray := by apply Array.ext'; simp
    simp [Instr.makeFunc, e2]) ?_
  refine (⟨_, rfl, ?_⟩ : RX w (Avoid c.X H ρ) H ρ (.fn f _) true [_])
  have e : caps.toList.foldr (fun x r => AV.pr (opnd cur x) r) .un = (caps.toList.map (opnd cur)).foldr .pr .un := by rw [List.foldr_map]
  rw [e]
  refine chain_ok _ _ (by simp) (fun i v u hv hu => ?_) (fun v hv => ?_)
  · rw [List.getElem?_map] at hv hu
    cases hx : caps.toList[i]? with
    | none => rw [hx] at hv; cases hv
    | some x =>
      rw [hx] at hv hu
      simp only [Option.map_some, Option.some.injEq] at hv hu
      subst hv; subst hu
      exact opnd_ok hfr x
  · obtain ⟨x, hx, rfl⟩ := List.mem_map.1 hv
    exact ht x hx

theorem repL_bytes {A : Nat → Prop} : ∀ {xs : List UInt8} {L : List Value}, RepL (RepC w A (.int .u8)) xs L → L = xs.map fun b => Value.int .u8 b.toNat
  | [], L, h => by simpa [RepL] using h
  | x :: xs, L, h => by
    obtain ⟨c1, r, rfl, ⟨rfl, _⟩, hr⟩ := h
    rw [repL_bytes hr]; rfl
theorem bytes_repL {A : Nat → Prop} (b : List UInt8) : RepL (RepC w A (.int .u8)) b (b.map fun x => .int .u8 x.toNat) := by
  induction b with
  | nil => rfl
  | cons x b ih =>
    refine ⟨[.int .u8 x.toNat], _, rfl, ⟨rfl, ?_⟩, ih⟩
    have := x.toNat_lt
    simp only [toI, Lit.wf, IntKind.min, IntKind.max, IntKind.signed, IntKind.bits]
    simp; omega

theorem run_bytes_str {src dst e : TypeId} (hs : P.underlying src = some (.slice e)) (he : P.underlying e = some (.int .u8)) (hd : P.underlying dst = some .string) {A : Nat → Prop} {val : Value} {xs : List UInt8} (hv : SliceIs w A val ⟨.int .u8, xs⟩) :
    (convert src dst val).run P w = .ok (.string ⟨xs.toArray⟩) w := by
  obtain ⟨ad, cap, rfl, h1, h2, h3⟩ := hv
  simp only at h1 h3 ⊢
  rw [run_convert_bytes_string w src dst e _ _ _ hs he hd]
  cases ad with
  | none =>
    rcases h3 with h3 | ⟨_, _, h, _⟩
    · subst h3
      simp [Conv.bytesToString]
      rfl
    · cases h
  | some ad =>
    have key : (loadCells ad xs.length).run P w = .ok ((xs.map fun b => (b.toNat : Int)).map (Value.int .u8)).toArray w := by
      rcases h3 with h3 | ⟨ad', L, h, _, hL, hc⟩
      · subst h3; simp [loadCells, loadCellsFrom]
      · cases h
        have e := repL_bytes hL
        subst e
        have := run_loadCells_list (P := P) w ad _ hc
        simpa [Function.comp_def] using this
    rw [run_bytesToString w ad _ cap _ key, foldl_push_bytes]
    simp [ByteArray.empty, ByteArray.emptyWithCapacity, Function.comp_def]
    rfl

/-- The mark behind a row. -/
def markW (w : World) (g : Nat) : World := match w.heap[g]? with
  | some (.cells c _ _) => w.freeze ⟨g, c.size, none⟩ 1
  | _ => w
theorem markW_blk {g : Nat} {E : TypeId} {cur : Array Value} (h : Blk w g E cur) : Blk (markW w g) g E cur ∧ OnlyBlk g w (markW w g) := by
  obtain ⟨⟨lo, hi⟩, h, hf⟩ := h
  have hlt := (Array.getElem?_eq_some_iff.1 h).1
  have he : markW w g = w.freeze ⟨g, cur.size, none⟩ 1 := by simp only [markW, h]
  rw [he]
  constructor
  · refine ⟨if lo == hi then (cur.size, cur.size + 1) else (min lo cur.size, max hi (cur.size + 1)), ?_, ?_⟩
    · simp only [World.freeze, Nat.one_ne_zero, if_false]
      rw [Array.getElem?_modify, if_pos rfl, h]; rfl
    · simp only at hf
      split
      · right; simp only; omega
      · rename_i hne
        right
        simp only
        have : lo ≠ hi := by simpa using hne
        omega
  · refine ⟨fun b hb => ?_, ?_, rfl, rfl, rfl⟩
    · simp only [World.freeze, Nat.one_ne_zero, if_false]
      rw [Array.getElem?_modify, if_neg (Ne.symm hb)]
    · simp [World.freeze]
theorem run_convert_bytes_bytes {t e : TypeId} (ht : P.underlying t = some (.slice e)) (he : P.underlying e = some (.int .u8)) (g off n cap : Nat) {E : TypeId} {cur : Array Value} (hb : Blk w g E cur) :
    (convert t t (.slice (some ⟨g, off, none⟩) n cap)).run P w = .ok (.slice (some ⟨g, off, none⟩) n cap) (markW w g) := by
  obtain ⟨fr, hg, hf⟩ := hb
  have hsh : w.shape? g = some (E, cur.size) := by simp only [World.shape?, hg]
  have hw : markW w g = w.freeze ⟨g, cur.size, none⟩ 1 := by simp only [markW, hg]
  rw [hw]
  simp [convert, run_underlying ht, run_underlying he, markStringish, hsh]

/-- A conversion. -/
theorem convert_ok (hΓ : GamOk P Γ) (h : StOk c w H ρ) {src dst : TypeId} {x v : AV} {xv : Value} {nid : Nat} {U : Upd} (hx : RV w (Avoid c.X H ρ) H ρ x xv) (ha : aConvert Γ src dst x H nid = some (true, v, U)) :
    Gives P c w H ρ (convert src dst xv) v U := by
  unfold aConvert at ha
  cases htd : Γ.at_ dst with
  | none => simp [htd] at ha
  | some td =>
    simp only [htd] at ha
    split at ha
    · cases ha
    rename_i hsrc
    obtain ⟨ds, hs⟩ := ty_ok hΓ (t := src) (Bool.eq_false_iff.2 hsrc)
    have hT := hΓ dst td htd
    split at ha
    · rename_i k j y hsc
      simp only [Option.some.injEq, Prod.mk.injEq, true_and] at ha
      obtain ⟨rfl, rfl⟩ := ha
      obtain ⟨rfl, _⟩ := RV.int hx
      have hd : P.underlying dst = some (.int k) := (hT.sch _ hsc).1.2
      refine Gives.same h ?_ (RV.mk_wrap k _)
      simp [convert, run_underlying hs, run_underlying hd, Conv.intToInt]
    · rename_i y hsc
      simp only [Option.some.injEq, Prod.mk.injEq, true_and] at ha
      obtain ⟨rfl, rfl⟩ := ha
      have hd : P.underlying dst = some .string := (hT.sch _ hsc).1.2
      obtain ⟨rfl, hm⟩ := RV.str hx
      refine Gives.same h ?_ hx
      simp [convert, run_underlying hs, run_underlying hd]
    · rename_i y hsc
      obtain ⟨rfl, hm⟩ := RV.str hx
      split at ha
      · rename_i e hk
        cases hU : newObj? H nid (.row e (.int .u8) y false) with
        | none => simp [hU] at ha
        | some U' =>
          simp only [hU, Option.map_some, Option.some.injEq, Prod.mk.injEq] at ha
          obtain ⟨hbig, rfl, rfl⟩ := ha
          obtain ⟨hnl, hfree, rfl⟩ := newObj_some hU
          obtain ⟨e', hd, he'⟩ := (hT.sch _ hsc).1.2
          have he2 : P.underlying e' = some (.int .u8) := he'.2
          obtain ⟨i, d, _, hu, _, hkd⟩ := hT.info
          rw [hk] at hkd
          have hde : d = .slice e := hkd
          subst hde
          rw [hd] at hu
          cases hu
          have hrun := Lib.run_convert_string_bytes (P := P) w src dst e ⟨y.toArray⟩ hs hd he2
          have hsz : (⟨y.toArray⟩ : ByteArray).size = y.length := by simp [ByteArray.size]
          rw [hsz] at hrun
          have hcells : Lib.bytesCells w e ⟨y.toArray⟩ = (y.map (fun b => Value.int .u8 b.toNat) ++ List.replicate (grownCap w y.length 0 e - y.length) (Value.int .u8 0)).toArray := by
            simp [Lib.bytesCells, hsz]
          have hge := grownCap_ge w y.length 0 e
          have hle := grownCap_le_maxLen w y.length 0 e hm
          have hcs : (Lib.bytesCells w e ⟨y.toArray⟩).size = grownCap w y.length 0 e := by rw [hcells]; simp; omega
          -- the world behind is one draw on, with one block more, and its mark lies behind the cells
          have hW : ∀ b : Nat, (Lib.bytesWorld w e ⟨y.toArray⟩).heap[b]? = ((w.drew.alloc (.cells (Lib.bytesCells w e ⟨y.toArray⟩) e ((Lib.bytesCells w e ⟨y.toArray⟩).size, (Lib.bytesCells w e ⟨y.toArray⟩).size + 1)))).heap[b]? := by
            intro b
            rcases Nat.lt_trichotomy b w.heap.size with hb | hb | hb
            · rw [Lib.bytesWorld_at_old w e _ b hb]
              exact (heap_alloc w.drew _ b hb).symm
            · subst hb
              rw [Lib.bytesWorld_at_new]
              exact (heap_alloc_new w.drew _).symm
            · rw [Array.getElem?_eq_none (by rw [Lib.bytesWorld_size]; omega), Array.getElem?_eq_none (by simp; omega)]
          have hheap : (Lib.bytesWorld w e ⟨y.toArray⟩).heap = ((w.drew.alloc (.cells (Lib.bytesCells w e ⟨y.toArray⟩) e ((Lib.bytesCells w e ⟨y.toArray⟩).size, (Lib.bytesCells w e ⟨y.toArray⟩).size + 1)))).heap := Array.ext_getElem? hW
          have Td := Tr.drew h
          have Ta := Tr.alloc (w := w.drew) Td.ok hnl hfree (ob := .row e (.int .u8) y false) (cur := Lib.bytesCells w e ⟨y.toArray⟩) (E := e) (fr := ((Lib.bytesCells w e ⟨y.toArray⟩).size, (Lib.bytesCells w e ⟨y.toArray⟩).size + 1)) (C := grownCap w y.length 0 e) (.inr (Nat.le_refl _))
            ⟨rfl, by rw [hcs]; simp [Sch.cells], hge, hle, by
              rw [hcells]
              have : ((y.map (fun b => Value.int .u8 b.toNat) ++ List.replicate (grownCap w y.length 0 e - y.length) (Value.int .u8 0)).toArray.toList).take (y.length * (Sch.int .u8).cells) = y.map (fun b => Value.int .u8 b.toNat) := by
                simp [Sch.cells]
              rw [this]; exact bytes_repL y⟩
          have Ts := Tr.same (w' := Lib.bytesWorld w e ⟨y.toArray⟩) Ta.ok hheap rfl rfl rfl
          refine ⟨_, _, _, hrun, ?_, (Td.trans Ta).trans Ts⟩
          exact rv_row (obj_set_same hnl _) (updR_same _ _) hge (Nat.le_refl _) hle
      · cases ha
    · rename_i o hsc
      split at ha
      · rename_i hst
        have hst : src = dst := by simpa using hst
        subst hst
        split at ha
        · rename_i E xs hob
          simp only [Option.some.injEq, Prod.mk.injEq] at ha
          obtain ⟨hne, rfl, rfl⟩ := ha
          obtain ⟨e', hd, he'⟩ := (hT.sch _ hsc).1.2
          have he2 : P.underlying e' = some (.int .u8) := he'.2
          have hok := h.obj o
          rw [hob] at hok
          rcases row_open hok with ⟨_, h2⟩ | ⟨g, C, hr, hown, cur, hb, h1, h2, h3, h4⟩
          · subst h2; cases hne
          · obtain ⟨hb', hon⟩ := markW_blk hb
            have hm : (ASt.obj H o).mut = true := by rw [hob]; rfl
            have hx' := hx
            obtain ⟨_, hx'⟩ : SlR H ρ o 0 none [_] := hx'
            rw [hob] at hx'
            simp only [AObj.elems] at hx'
            obtain ⟨a, cap, hv, _, hle, _, hm2⟩ := hx'
            rw [hr] at hm2
            simp only [List.cons.injEq, and_true] at hv
            subst hv
            have hpos : 0 < xs.length := by cases xs with
              | nil => cases hne
              | cons _ _ => simp
            have hcap : cap ≠ 0 := by
              simp only [Option.getD_none] at hle
              omega
            have ha := hm2.2.resolve_left hcap
            subst ha
            have T := Tr.write h (n := o) (ob := .row E (.int .u8) xs false) hm hr hb' hon.oth hon.size hon.os hon.tape hon.output ⟨rfl, h1, h2, h3, h4⟩ (by rw [hob]) (by rw [hob]) rfl
            have T' := T.trans (Tr.reheap T.ok (H' := H) fun i => by
              by_cases hi : i = o
              · subst hi; rw [hob, obj_set_same (obj_lt (by rw [hob]; simp))]
              · rw [obj_set_other (Ne.symm hi)])
            exact ⟨_, _, _, run_convert_bytes_bytes hd he2 g _ _ _ hb, T'.rv hx, T'⟩
        · cases ha
      · cases ha
    · rename_i y _ _ hsc _
      split at ha
      · rename_i hss
        cases he : elemsAs H (.int .u8) y with
        | none => simp [he] at ha
        | some xs =>
          simp only [he, Option.map_some, Option.some.injEq, Prod.mk.injEq, true_and] at ha
          obtain ⟨rfl, rfl⟩ := ha
          have hd : P.underlying dst = some .string := (hT.sch _ hsc).1.2
          obtain ⟨e', hs', he'⟩ := (sch_ok hΓ hss).2
          have hv := elemsAs_ok h hx he
          refine Gives.same h (run_bytes_str hs' he'.2 hd hv) ?_
          obtain ⟨_, cap, _, h1, h2, _⟩ := hv
          exact (⟨rfl, Nat.le_trans h1 h2⟩ : RepC _ _ .str xs [_])
      · cases ha
    · cases ha
end
end Go.AI

/- copy, min, max. -/
noncomputable section
namespace Go.AI
open Go Go.RowKit

section
variable {P : Program} {Γ : Gam} {c : Ctx P} {w : World} {H H' : List AObj} {ρ : Rho} {o : Nat} {cur : List AV} {a : Act}

/-- A source of which the first so many elements are taken. -/
structure SrcN (P : Program) (w : World) (size : Nat) (val : Value) (n : Nat) (L : List Value) : Prop where
  len : (Builtin.lenOf val).run P w = .ok n w
  cells : ∀ k, k ≤ n → (Builtin.firstCells size k val).run P w = .ok (L.take (k * size)).toArray w

theorem SliceIs.srcN {A : Nat → Prop} {val : Value} {s : Sch} {xs : List s.T} (h : SliceIs w A val ⟨s, xs⟩) : ∃ L, SrcN P w s.cells val xs.length L ∧ RepL (RepC w A s) xs L := by
  obtain ⟨a, cap, rfl, h1, h2, h3⟩ := h
  rcases h3 with h3 | ⟨ad, L, rfl, hb, hL, hc⟩
  · simp only at h3
    subst h3
    refine ⟨[], ⟨by simp [Builtin.lenOf], fun k hk => ?_⟩, rfl⟩
    have : k = 0 := by simpa using hk
    subst this
    cases a with
    | none => simp [Builtin.firstCells]
    | some ad => simp [Builtin.firstCells, loadCells, loadCellsFrom]
  · refine ⟨L, ⟨by simp [Builtin.lenOf], fun k hk => ?_⟩, hL⟩
    have hlen : L.length = xs.length * s.cells := RepL.length (fun x c => RepC.length s) hL
    have hk : k ≤ xs.length := hk
    have hle : k * s.cells ≤ xs.length * s.cells := Nat.mul_le_mul_right _ hk
    refine run_firstCells_some (P := P) w s.cells k ad _ cap _ (by rw [List.length_take]; omega) (fun j v hj => ?_)
    rw [List.getElem?_take] at hj
    split at hj
    · exact hc j v hj
    · cases hj

theorem str_srcN {A : Nat → Prop} (b : List UInt8) : ∃ L, SrcN P w 1 (.string ⟨b.toArray⟩) b.length L ∧ RepL (RepC w A (.int .u8)) b L := by
  refine ⟨b.map fun x => .int .u8 x.toNat, ⟨by simp [Builtin.lenOf, ByteArray.size], fun k hk => ?_⟩, bytes_repL b⟩
  simp only [Builtin.firstCells]
  have e : (((ByteArray.mk b.toArray).extract 0 k).data.map fun b => Value.int .u8 b.toNat) = ((b.map fun x => Value.int .u8 x.toNat).take (k * 1)).toArray := by
    apply Array.ext'
    simp [ByteArray.data_extract]
  rw [e]; rfl

theorem srcElemsN_ok (h : StOk c w H ρ) {v : AV} {val : Value} {s : Sch} {xs : List s.T} (hv : RV w (Avoid c.X H ρ) H ρ v val) (he : srcElems H s v = some xs) :
    ∃ L, SrcN P w s.cells val xs.length L ∧ RepL (RepC w (Avoid c.X H ρ) s) xs L := by
  unfold srcElems at he
  split at he
  · rename_i b
    obtain ⟨rfl, _⟩ := RV.str hv
    unfold elemsAs at he
    simp only [elemsOf] at he
    split at he
    · rename_i hs
      subst hs
      simp only [Option.some.injEq] at he
      subst he
      exact str_srcN b
    · cases he
  · exact (elemsAs_ok h hv he).srcN

theorem run_copyN {t e ty : TypeId} {ts : Array TypeId} {i : TypeInfo} (h0 : ts[0]? = some t) (ht : P.underlying t = some (.slice e)) (hi : P.info? e = some i) {base : Option Addr} {dl cap m : Nat} {val : Value} {L : List Value} (hs : SrcN P w i.size val m L) :
    (Builtin.copy_ ts ty #[.slice base dl cap, val]).run P w =
      match base with
      | none => .ok (.int .i64 (Nat.min m dl : Nat)) w
      | some ad => ((storeCells ad (L.take (Nat.min m dl * i.size))).run P w).andThen fun _ w' => .ok (.int .i64 (Nat.min m dl : Nat)) w' := by
  have hl := hs.len
  have hc := hs.cells (Nat.min m dl) (Nat.min_le_left _ _)
  cases base <;> simp [Builtin.copy_, h0, run_underlying ht, sizeOf, typeInfo, hi, hl, hc, goInt]

theorem drop_take' {α : Type} (l : List α) (a b n : Nat) (h : a + b ≤ n) : ((l.take n).drop a).take b = (l.drop a).take b := by
  rw [List.drop_take, List.take_take]; congr 1; omega

/-- Elements put in place of others. -/
theorem repL_splice {α : Type} {R : α → List Value → Prop} {n : Nat} (hR : ∀ x c, R x c → c.length = n) {xs ys : List α} {K L : List Value} (hK : RepL R xs K) (hL : RepL R ys L) {off : Nat} :
    RepL R (xs.take off ++ ys ++ xs.drop (off + ys.length)) (K.take (off * n) ++ L ++ K.drop (off * n + L.length)) := by
  have hlen := RepL.length hR hL
  have e : off * n + L.length = (off + ys.length) * n := by rw [hlen, Nat.add_mul]
  rw [e]
  exact RepL.append (RepL.append (RepL.take hR hK off) hL) (RepL.drop hR hK _)

theorem obj_set_self (H : List AObj) (o : Nat) (o' : Nat) : ASt.obj (H.set o (ASt.obj H o)) o' = ASt.obj H o' := by
  by_cases ho : o' = o
  · subst ho
    rcases Nat.lt_or_ge o' H.length with hlt | hge
    · rw [obj_set_same hlt]
    · rw [List.set_eq_of_length_le hge]
  · rw [obj_set_other (Ne.symm ho)]

/-- The elements of an object are written. -/
theorem write_elems (h : StOk c w H ρ) {o off : Nat} {len : Option Nat} {e : Elems} {ad : Option Addr} {dl cap : Nat} (he : (ASt.obj H o).elems = some e) (hmut : (ASt.obj H o).mut = true) (hv : SlR H ρ o off len [.slice ad dl cap])
    {ys : List e.s.T} {L : List Value} (hL : RepL (RepC w (Avoid c.X H ρ) e.s) ys L) (hn : ys.length ≤ dl) {ob : AObj}
    (hob : ob.elems = some ⟨e.s, e.xs.take off ++ ys ++ e.xs.drop (off + ys.length)⟩) (hsame : (∃ E fz, ASt.obj H o = .row E e.s e.xs fz ∧ ob = .row E e.s (e.xs.take off ++ ys ++ e.xs.drop (off + ys.length)) false) ∨
      (∃ n, ASt.obj H o = .box (.dat (.arr n e.s) e.xs) ∧ ob = .box (.dat (.arr n e.s) (e.xs.take off ++ ys ++ e.xs.drop (off + ys.length))))) :
    ∃ w', (match ad with | none => (.ok () w : Result Unit) | some ad => (storeCells ad L).run P w) = .ok () w' ∧ Tr c w H ρ w' (H.set o ob) ρ := by
  have hlenL := RepL.length (fun x c => RepC.length e.s) hL
  obtain ⟨_, hv⟩ := hv
  simp only [he] at hv
  obtain ⟨ad', cap', hval, h1, h2, h3, h4⟩ := hv
  simp only [List.cons.injEq, Value.slice.injEq, and_true] at hval
  obtain ⟨rfl, rfl, rfl⟩ := hval
  have hlen' : (e.xs.take off ++ ys ++ e.xs.drop (off + ys.length)).length = e.xs.length := by simp; omega
  by_cases hy : ys = []
  · subst hy
    have hL0 : L = [] := hL
    subst hL0
    have hob' : ob = ASt.obj H o := by
      rcases hsame with ⟨E, fz, h1, h2⟩ | ⟨n, h1, h2⟩
      · rw [h1] at hmut
        have : fz = false := by simpa [AObj.mut] using hmut
        subst this
        rw [h1, h2]; simp
      · rw [h1, h2]; simp
    refine ⟨w, by cases ad <;> simp [storeCells], ?_⟩
    rw [hob']
    exact Tr.reheap h (obj_set_self H o)
  · have hpos : 0 < ys.length := List.length_pos_iff.2 hy
    rcases h.elems he with ⟨hr, _⟩ | ⟨g, C, E, cur, hr, hown, hb, hxC, hCm, hcs, hK⟩
    · rw [hr] at h4; simp only at h4; omega
    · rw [hr] at h4
      simp only at h4
      obtain ⟨h5, h6⟩ := h4
      rcases h6 with h6 | h6
      · omega
      subst h6
      have hfit : (off + ys.length) * e.s.cells ≤ e.xs.length * e.s.cells := Nat.mul_le_mul_right _ (by omega)
      have hfit2 : e.xs.length * e.s.cells ≤ C * e.s.cells := Nat.mul_le_mul_right _ hxC
      rw [Nat.add_mul] at hfit
      obtain ⟨w', hrun, hb', ho'⟩ := run_storeCells P (g := g) (off := off * e.s.cells) L 0 cur w hb (by rw [hcs, hlenL]; omega) (RepL.cells (fun x c hc => RepC.oneCell e.s hc) hL)
      simp only [Nat.add_zero] at hb'
      refine ⟨w', hrun, ?_⟩
      have hsp : (splice cur (off * e.s.cells) L).toList.take (e.xs.length * e.s.cells) = (cur.toList.take (e.xs.length * e.s.cells)).take (off * e.s.cells) ++ L ++ (cur.toList.take (e.xs.length * e.s.cells)).drop (off * e.s.cells + L.length) := by
        simp only [splice]
        rw [List.take_append, List.take_append, List.take_take, List.take_take, Nat.min_eq_right (show off * e.s.cells ≤ e.xs.length * e.s.cells by omega), Nat.min_eq_left (show off * e.s.cells ≤ e.xs.length * e.s.cells by omega)]
        have hl1 : (cur.toList.take (off * e.s.cells)).length = off * e.s.cells := by simp only [List.length_take, Array.length_toList]; omega
        rw [hl1, List.take_of_length_le (show L.length ≤ e.xs.length * e.s.cells - off * e.s.cells by omega), List.drop_take]
        congr 2
        rw [List.length_append, hl1]
      have hnew := repL_splice (fun x c => RepC.length e.s) hK hL (off := off)
      rw [← hsp] at hnew
      have hsz : (splice cur (off * e.s.cells) L).size = cur.size := splice_size (by omega)
      rcases hsame with ⟨E', fz, e1, e2⟩ | ⟨n, e1, e2⟩
      · subst e2
        have hEE : E' = E := by
          have ho := h.obj o
          rw [e1] at ho
          rcases ho with ⟨h1, _⟩ | ⟨g', C', a1, _, cur', E2, ⟨fr, a2, _⟩, hE2, _⟩
          · rw [hr] at h1; cases h1
          · rw [hr] at a1; cases a1
            have hz : fz = false := by rw [e1] at hmut; simpa [AObj.mut] using hmut
            rw [← hE2 hz]
            obtain ⟨fr', a3, _⟩ := hb
            rw [a2] at a3; cases a3; rfl
        subst hEE
        exact Tr.write h hmut hr hb' ho'.oth ho'.size ho'.os ho'.tape ho'.output (C := C) ⟨rfl, by rw [hsz, hcs], by rw [hlen']; exact hxC, hCm, by rw [hlen']; exact hnew⟩ (by rw [e1]; simp only [AObj.lay, hlen']) (by rw [e1]; simp only [AObj.shape, AObj.elems, Option.map_some, hlen']) rfl
      · subst e2
        have ho := h.obj o
        rw [e1] at ho
        obtain ⟨g', C', E', cur', a1, _, a3, a4, _, a6⟩ := ho
        rw [hr] at a1; cases a1
        have hcc : cur' = cur := by
          obtain ⟨fr, b1, _⟩ := a3
          obtain ⟨fr', b2, _⟩ := hb
          rw [b1] at b2; cases b2; rfl
        subst hcc
        have hC := (a6 e (by rw [← e1]; exact he)).1
        obtain ⟨hm, _⟩ := (a4 : RepC w (Avoid c.X H ρ) (.arr n e.s) e.xs _)
        have htk : (splice cur' (off * e.s.cells) L).toList.take (e.xs.length * e.s.cells) = (splice cur' (off * e.s.cells) L).toList := by
          apply List.take_of_length_le
          rw [Array.length_toList, hsz, hcs, hC]; exact Nat.le_refl _
        rw [htk] at hnew
        refine Tr.write h hmut hr hb' ho'.oth ho'.size ho'.os ho'.tape ho'.output (C := C) ⟨(⟨by rw [hlen']; exact hm, hnew⟩ : RepC w (Avoid c.X H ρ) (.arr n e.s) _ _), rfl, fun e' he' => ?_⟩ (by rw [e1]; rfl) (by rw [e1]; simp only [AObj.shape, AObj.elems, Option.map_some, hlen']) rfl
        rw [hob] at he'
        cases he'
        exact ⟨by rw [hlen']; exact hC, hCm⟩

theorem copy_ok (hΓ : GamOk P Γ) (h : StOk c w H ρ) {t ty : TypeId} {ts : Array TypeId} {x y v : AV} {xv yv : Value} {U : Upd} (h0 : ts[0]? = some t) (hx : RV w (Avoid c.X H ρ) H ρ x xv) (hy : RV w (Avoid c.X H ρ) H ρ y yv) (ha : aCopy Γ t x y H = some (true, v, U)) :
    Gives P c w H ρ (Builtin.copy_ ts ty #[xv, yv]) v U := by
  unfold aCopy at ha
  cases hel : Γ.elem t with
  | none => simp [hel] at ha
  | some es =>
    obtain ⟨E, s⟩ := es
    simp only [hel] at ha
    obtain ⟨hu, hE⟩ := elem_ok hΓ hel
    obtain ⟨i, z, hi, hiz, hzc, hsz, _, _⟩ := SchOk.info hE
    cases hsrc : srcElems H s y with
    | none => simp [hsrc] at ha
    | some ys =>
      simp only [hsrc] at ha
      obtain ⟨L, hS, hL⟩ := srcElemsN_ok (P := P) h hy hsrc
      rw [← hsz] at hS
      -- what is done for a destination in an object
      have key : ∀ (o off : Nat) (len : Option Nat) (xs : List s.T) (ob : AObj) (zs : List s.T), (ASt.obj H o).elems = some ⟨s, xs⟩ → (ASt.obj H o).mut = true → SlR H ρ o off len [xv] →
          zs = xs.take off ++ ys.take (min ys.length (len.getD xs.length)) ++ xs.drop (off + min ys.length (len.getD xs.length)) →
          ((∃ E, ASt.obj H o = .row E s xs false ∧ ob = .row E s zs false) ∨ (∃ n, ASt.obj H o = .box (.dat (.arr n s) xs) ∧ ob = .box (.dat (.arr n s) zs))) →
          Gives P c w H ρ (Builtin.copy_ ts ty #[xv, yv]) (.dat (.int .i64) ((min ys.length (len.getD xs.length) : Nat) : Int)) [(o, ob)] := by
        intro o off len xs ob zs he hmut hv hzs hsame
        have hv' := hv
        obtain ⟨_, hv'⟩ := hv'
        simp only [he] at hv'
        obtain ⟨ad, cap, hval, g1, g2, g3, _⟩ := hv'
        simp only [List.cons.injEq, and_true] at hval
        subst hval
        generalize hdl : len.getD xs.length = dl at *
        have hmin : (ys.take (min ys.length dl)).length = min ys.length dl := by simp
        have hL' := RepL.take (fun x c => RepC.length s) hL (min ys.length dl)
        have hzs' : zs = xs.take off ++ ys.take (min ys.length dl) ++ xs.drop (off + (ys.take (min ys.length dl)).length) := by rw [hmin]; exact hzs
        obtain ⟨w', hrun, hT⟩ := write_elems (P := P) h (e := ⟨s, xs⟩) he hmut hv hL' (by rw [hmin]; omega) (ob := ob) (by
          rcases hsame with ⟨E', _, rfl⟩ | ⟨n, _, rfl⟩ <;> (simp only [AObj.elems]; rw [hzs'])) (by
          rcases hsame with ⟨E', a1, a2⟩ | ⟨n, a1, a2⟩
          · exact .inl ⟨E', false, a1, by rw [a2, hzs']⟩
          · exact .inr ⟨n, a1, by rw [a2, hzs']⟩)
        have hmn : Nat.min ys.length dl = min ys.length dl := rfl
        refine ⟨.int .i64 (min ys.length dl : Nat), w', ρ, ?_, ?_, hT⟩
        · rw [run_copyN h0 hu hi hS, hsz, hmn]
          cases ad with
          | none => simp only [Result.ok.injEq, true_and] at hrun ⊢; exact hrun
          | some ad => simp only at hrun ⊢; rw [hrun]; rfl
        · have hm : min ys.length dl ≤ maxLen := by omega
          exact RV.mk_int (k := .i64) (a := ((min ys.length dl : Nat) : Int)) (wf_i64 hm)
      have fin : ∀ (o off : Nat) (len : Option Nat), SlR H ρ o off len [xv] →
          (match ASt.obj H o with
            | .row E' s' xs false => if h : s' = s then
                some (true, AV.dat (.int .i64) ((min ys.length (len.getD (castT (s := .slc s') (t := .slc s) (by rw [h]) xs).length) : Nat) : Int), [(o, AObj.row E' s ((castT (s := .slc s') (t := .slc s) (by rw [h]) xs).take off ++ ys.take (min ys.length (len.getD (castT (s := .slc s') (t := .slc s) (by rw [h]) xs).length)) ++ (castT (s := .slc s') (t := .slc s) (by rw [h]) xs).drop (off + min ys.length (len.getD (castT (s := .slc s') (t := .slc s) (by rw [h]) xs).length))) false)]) else none
            | .box (.dat (.arr n s') xs) => if h : s' = s then
                some (true, AV.dat (.int .i64) ((min ys.length (len.getD (castT (s := .slc s') (t := .slc s) (by rw [h]) xs).length) : Nat) : Int), [(o, AObj.box (.dat (.arr n s) ((castT (s := .slc s') (t := .slc s) (by rw [h]) xs).take off ++ ys.take (min ys.length (len.getD (castT (s := .slc s') (t := .slc s) (by rw [h]) xs).length)) ++ (castT (s := .slc s') (t := .slc s) (by rw [h]) xs).drop (off + min ys.length (len.getD (castT (s := .slc s') (t := .slc s) (by rw [h]) xs).length)))))]) else none
            | _ => none : Ans) = some (true, v, U) → Gives P c w H ρ (Builtin.copy_ ts ty #[xv, yv]) v U := by
        intro o off len hv hm
        split at hm
        · rename_i E' s' xs hob
          split at hm
          · rename_i hs
            subst hs
            simp only [castT, Option.some.injEq, Prod.mk.injEq, true_and] at hm
            obtain ⟨rfl, rfl⟩ := hm
            exact key o off len xs _ _ (by rw [hob]; rfl) (by rw [hob]; rfl) hv rfl (.inl ⟨E', hob, rfl⟩)
          · cases hm
        · rename_i n s' xs hob
          split at hm
          · rename_i hs
            subst hs
            simp only [castT, Option.some.injEq, Prod.mk.injEq, true_and] at hm
            obtain ⟨rfl, rfl⟩ := hm
            exact key o off len xs _ _ (by rw [hob]; rfl) (by rw [hob]; rfl) hv rfl (.inr ⟨n, hob, rfl⟩)
          · cases hm
        · cases hm
      split at ha
      · rename_i o
        exact fin o 0 none hx ha
      · rename_i o off len
        exact fin o off (some len) hx ha
      · cases ha

theorem minMax_ok (mx : Bool) (k : IntKind) : ∀ (r : List AV) (vs : List Value) (a b : IT k), r.length = vs.length → (∀ (i : Nat) (v : AV) (u : Value), r[i]? = some v → vs[i]? = some u → RV w (Avoid c.X H ρ) H ρ v u) →
    (Lit.int k (toI k a)).wf = true → aMinMax mx k a r = some b →
    (vs.foldlM (if mx then Builtin.max2 else Builtin.min2) (.int k (toI k a))).run P w = .ok (.int k (toI k b)) w ∧ (Lit.int k (toI k b)).wf = true
  | [], [], a, b, _, _, hw, ha => by
    simp only [aMinMax, Option.some.injEq] at ha
    subst ha
    exact ⟨by simp, hw⟩
  | [], _ :: _, _, _, h, _, _, _ => by simp at h
  | _ :: _, [], _, _, h, _, _, _ => by simp at h
  | v :: r, u :: vs, a, b, hl, hr, hw, ha => by
    unfold aMinMax at ha
    split at ha
    · cases ‹_ :: _ = []›
    · rename_i j y r' e
      simp only [List.cons.injEq] at e
      obtain ⟨rfl, rfl⟩ := e
      split at ha
      · rename_i hj
        subst hj
        simp only [castT] at ha
        obtain ⟨rfl, hwy⟩ := RV.int (hr 0 _ u rfl rfl)
        have hw' : (Lit.int j (toI j ((if mx then wMax else wMin) j a y))).wf = true := by
          cases mx
          · simp only [Bool.false_eq_true, if_false, wMin]; split <;> assumption
          · simp only [if_true, wMax]; split <;> assumption
        obtain ⟨g1, g2⟩ := minMax_ok mx j r vs _ b (by simpa using hl) (fun i v u hv hu => hr (i + 1) v u (by simpa using hv) (by simpa using hu)) hw' ha
        refine ⟨?_, g2⟩
        rw [List.foldlM_cons, Sem.run_bind]
        have hstep : ((if mx then Builtin.max2 else Builtin.min2) (.int j (toI j a)) (.int j (toI j y))).run P w = .ok (.int j (toI j ((if mx then wMax else wMin) j a y))) w := by
          cases mx
          · simp only [Bool.false_eq_true, if_false, Builtin.min2, wMin]
            split <;> rfl
          · simp only [if_true, Builtin.max2, wMax]
            split <;> rfl
        rw [hstep]
        exact g1
      · cases ha
    · cases ha
end
end Go.AI

/- More slices; clear. -/
noncomputable section
namespace Go.AI
open Go Go.RowKit

section
variable {P : Program} {Γ : Gam} {c : Ctx P} {w : World} {H H' : List AObj} {ρ : Rho} {o : Nat} {cur : List AV} {a : Act}

theorem run_bound {k : IntKind} {i : Int} {y : Nat} {code : BoundsCode} (h0 : 0 ≤ i) (hy : i.toNat ≤ y) : (Instr.sliceBound (.int k i) y code).run P w = .ok i.toNat w := by
  have : i ≤ (y : Int) := by omega
  simp [Instr.sliceBound, asIntOf, h0, this]
theorem run_bounds3 {isS : Bool} {len cap : Nat} {vlo vhi vmx : Option Value} {lo : Option Int} {u : Int} (h1 : BndIs vlo lo) (h2 : BndIs vhi (some u)) (h3 : BndIs vmx (some u)) (hok : okCut len lo (some u) = true) (hc : len ≤ cap) :
    (Instr.sliceBounds isS len cap vlo vhi vmx).run P w = .ok (loOf lo, u.toNat, u.toNat) w := by
  obtain ⟨b1, b2, b3, b4⟩ := okCut_bounds hok
  have hu := b4 u rfl
  simp only [hiOf] at b1 b2
  obtain ⟨k, rfl⟩ := h2
  obtain ⟨j, rfl⟩ := h3
  cases lo with
  | none =>
    obtain rfl : vlo = none := h1
    simp [Instr.sliceBounds, run_bound (P := P) (w := w) (k := j) hu (show u.toNat ≤ cap by omega), run_bound (P := P) (w := w) (k := k) hu (Nat.le_refl u.toNat), loOf]
  | some l =>
    obtain ⟨q, rfl⟩ := h1
    simp only [loOf] at b1
    simp [Instr.sliceBounds, run_bound (P := P) (w := w) (k := j) hu (show u.toNat ≤ cap by omega), run_bound (P := P) (w := w) (k := k) hu (Nat.le_refl u.toNat), run_bound (P := P) (w := w) (k := q) (b3 l rfl) b1, loOf]

theorem repC_cut3 {A : Nat → Prop} {s : Sch} {xs : List s.T} {ad : Option Addr} {len cap : Nat} {lo : Option Int} {u : Int} (hok : okCut xs.length lo (some u) = true) (h : RepC w A (.slc s) xs [.slice ad len cap]) :
    ∃ a', [Value.slice (if u.toNat = loOf lo then ad else ad.map (·.add (loOf lo * s.cells))) (u.toNat - loOf lo) (u.toNat - loOf lo)] = [Value.slice a' (cut xs lo (some u)).length (cut xs lo (some u)).length] ∧
      RepC w A (.slc s) (cut xs lo (some u)) [Value.slice (if u.toNat = loOf lo then ad else ad.map (·.add (loOf lo * s.cells))) (u.toNat - loOf lo) (u.toNat - loOf lo)] := by
  obtain ⟨ad', cap', e, h1, h2, h3⟩ := h
  simp only [List.cons.injEq, Value.slice.injEq, and_true] at e
  obtain ⟨rfl, rfl, rfl⟩ := e
  obtain ⟨b1, b2, b3, b4⟩ := okCut_bounds hok
  simp only [hiOf] at b1 b2
  have hlen : (cut xs lo (some u)).length = u.toNat - loOf lo := by rw [cut_eq hok]; simp [hiOf]; omega
  refine ⟨_, by rw [hlen], _, _, by rw [hlen], by rw [hlen]; exact Nat.le_refl _, by omega, ?_⟩
  by_cases hn : u.toNat - loOf lo = 0
  · left; exact List.eq_nil_of_length_eq_zero (by rw [hlen, hn])
  right
  rcases h3 with h3 | ⟨a, L, rfl, hb, hA, hr, hc⟩
  · subst h3; simp only [List.length_nil] at *; omega
  rw [if_neg (by omega), cut_eq hok]
  refine ⟨a.add (loOf lo * s.cells), _, rfl, by rw [Addr.add_block]; exact hb, by rw [Addr.add_block]; exact hA, RepL.take (fun x c => RepC.length s) (RepL.drop (fun x c => RepC.length s) hr (loOf lo)) _, ?_⟩
  intro j v hu
  rw [addr_add_add]
  rw [List.getElem?_take] at hu
  split at hu
  · rw [List.getElem?_drop] at hu; exact hc _ _ hu
  · cases hu

theorem slR_cut3 {off n : Nat} {len : Option Nat} {ad : Option Addr} {l cap : Nat} {e : Elems} {lo : Option Int} {u : Int} (he : (ASt.obj H o).elems = some e) (hlen : len.getD e.xs.length = n) (hok : okCut n lo (some u) = true) (h : SlR H ρ o off len [.slice ad l cap]) :
    l = n ∧ l ≤ cap ∧ SlR H ρ o (off + loOf lo) (some (u.toNat - loOf lo)) [.slice (if u.toNat = loOf lo then ad else ad.map (·.add (loOf lo * e.s.cells))) (u.toNat - loOf lo) (u.toNat - loOf lo)] := by
  obtain ⟨h0, h⟩ := h
  simp only [he] at h
  rw [hlen] at h
  obtain ⟨a', cap', hv, h1, h2, h3, h4⟩ := h
  simp only [List.cons.injEq, Value.slice.injEq, and_true] at hv
  obtain ⟨rfl, rfl, rfl⟩ := hv
  obtain ⟨b1, b2, b3, b4⟩ := okCut_bounds hok
  simp only [hiOf] at b1 b2
  refine ⟨rfl, h2, h0, ?_⟩
  simp only [he, Option.getD_some]
  refine ⟨_, _, rfl, by omega, by omega, by omega, ?_⟩
  cases hr : ρ o with
  | none =>
    rw [hr] at h4
    simp only at h4 ⊢
    omega
  | some gC =>
    rw [hr] at h4
    simp only at h4 ⊢
    refine ⟨by omega, ?_⟩
    by_cases hc : u.toNat = loOf lo
    · left; omega
    · right
      rcases h4.2 with h5 | h5
      · omega
      · rw [if_neg hc, h5]
        simp only [Option.map_some, Option.some.injEq]
        rw [add_lit, Nat.add_mul]

theorem slice3_ok (hΓ : GamOk P Γ) (h : StOk c w H ρ) {t : TypeId} {z : Bool} {x hi mx v : AV} {lo : Option AV} {xv vh vm : Value} {vlo : Option Value} (hx : RV w (Avoid c.X H ρ) H ρ x xv) (hl : ∀ b, bnd lo = some b → BndIs vlo b) (hh : ∀ b, bnd (some hi) = some b → BndIs (some vh) b) (hm : ∀ b, bnd (some mx) = some b → BndIs (some vm) b)
    (hz : z = true → bnd lo = some none ∧ bnd (some hi) = some (some 0)) (ha : aSlice3 Γ H t z x lo hi mx = some (true, v)) : Gives P c w H ρ (Instr.sliceAt t xv vlo (some vh) (some vm)) v [] := by
  unfold aSlice3 at ha
  split at ha
  · rename_i l u m el eu em
    have h1 := hl _ el
    have h2 := hh _ eu
    have h3 := hm _ em
    have hz' : z = true → l = none ∧ u = 0 := fun e => by
      obtain ⟨z1, z2⟩ := hz e
      rw [el] at z1; rw [eu] at z2
      cases z1; cases z2; exact ⟨rfl, rfl⟩
    have run3 : ∀ {n len cap : Nat} {ad : Option Addr}, Γ.sliceOf t n = true → okCut len l (some u) = true → m = u → len ≤ cap → xv = .slice ad len cap →
        (Instr.sliceAt t xv vlo (some vh) (some vm)).run P w = .ok (.slice (if u.toNat = loOf l then ad else ad.map (·.add (loOf l * n))) (u.toNat - loOf l) (u.toNat - loOf l)) w := by
      intro n len cap ad ht hok hmu hc hval
      subst hmu; subst hval
      obtain ⟨e, ti, hu, hT, hsz⟩ := sliceOf_ok hΓ ht
      simp [Instr.sliceAt, Instr.slice, run_underlying hu, run_bounds3 (P := P) (w := w) h1 h2 h3 hok hc, run_sizeOf hT, hsz]
    have fin : ∀ {s : Sch} {xs : List s.T}, Γ.sliceOf t s.cells = true → (okCut xs.length l (some u) && (m == u)) = true → RepC w (Avoid c.X H ρ) (.slc s) xs [xv] → Gives P c w H ρ (Instr.sliceAt t xv vlo (some vh) (some vm)) (.slx s (cut xs l (some u))) [] := by
      intro s xs ht hok hr
      simp only [Bool.and_eq_true, beq_iff_eq] at hok
      obtain ⟨hok, hmu⟩ := hok
      obtain ⟨ad, cap, hval, hc, _⟩ := RepC.slice hr
      rw [hval] at hr
      exact Gives.same h (run3 ht hok hmu hc hval) (repC_cut3 hok hr)
    have rowfin : ∀ {o off n : Nat} {len : Option Nat} {e : Elems}, (ASt.obj H o).elems = some e → len.getD e.xs.length = n → Γ.sliceOf t e.s.cells = true → (okCut n l (some u) && (m == u)) = true → SlR H ρ o off len [xv] → v = (if z then .emp else .sl o (off + loOf l) (u.toNat - loOf l)) → Gives P c w H ρ (Instr.sliceAt t xv vlo (some vh) (some vm)) v [] := by
      intro o off n len e he hlen ht hok hr hv
      simp only [Bool.and_eq_true, beq_iff_eq] at hok
      obtain ⟨hok, hmu⟩ := hok
      have hr' := hr
      obtain ⟨_, hr'⟩ := hr'
      simp only [he] at hr'
      obtain ⟨ad, cap, hval, _, hc, _⟩ := hr'
      simp only [List.cons.injEq, and_true] at hval
      rw [hval] at hr
      rw [hlen] at hval hc hr
      obtain ⟨_, _, g3⟩ := slR_cut3 he hlen hok hr
      have hrun := run3 ht hok hmu hc hval
      subst hv
      cases z with
      | false => exact Gives.same h hrun g3
      | true =>
        obtain ⟨rfl, rfl⟩ := hz' rfl
        exact Gives.same h hrun (⟨ad, rfl⟩ : ∃ a, [Value.slice ad 0 0] = [Value.slice a 0 0])
    have nilfin : ∀ {ad : Option Addr}, isSliceKind Γ t = true → (okCut 0 l (some u) && (m == u)) = true → xv = .slice ad 0 0 → (Instr.sliceAt t xv vlo (some vh) (some vm)).run P w = .ok (.slice ad 0 0) w := by
      intro ad ht hok hval
      simp only [Bool.and_eq_true, beq_iff_eq] at hok
      obtain ⟨hok, hmu⟩ := hok
      unfold isSliceKind at ht
      split at ht
      · rename_i e cl sc q hg
        cases hge : Γ.at_ e with
        | none => rw [hge] at ht; cases ht
        | some ti =>
          have hsl : Γ.sliceOf t ti.cells = true := by simp [Gam.sliceOf, hg, hge]
          have := run3 hsl hok hmu (Nat.le_refl _) hval
          obtain ⟨b1, b2, _⟩ := okCut_bounds hok
          simp only [hiOf] at b1 b2
          have e1 : u.toNat = 0 := by omega
          have e2 : loOf l = 0 := by omega
          simpa [e1, e2] using this
      · cases ht
    split at ha
    · rename_i s xs
      obtain ⟨ht, ha⟩ := ite_some ha
      simp only [Option.some.injEq, Prod.mk.injEq] at ha
      obtain ⟨hok, rfl⟩ := ha
      exact fin ht hok hx
    · rename_i s xs
      obtain ⟨ht, ha⟩ := ite_some ha
      simp only [Option.some.injEq, Prod.mk.injEq] at ha
      obtain ⟨hok, rfl⟩ := ha
      obtain ⟨ad, hval, hr⟩ := (hx : ∃ ad, [xv] = [Value.slice ad xs.length xs.length] ∧ RepC w (Avoid c.X H ρ) (.slc s) xs [xv])
      exact fin ht hok hr
    · rename_i o
      split at ha
      · rename_i e he
        obtain ⟨ht, ha⟩ := ite_some ha
        simp only [Option.some.injEq, Prod.mk.injEq] at ha
        obtain ⟨hok, hv⟩ := ha
        exact rowfin (off := 0) (len := none) he rfl ht hok hx (by rw [Nat.zero_add]; exact hv.symm)
      · cases ha
    · rename_i o off n
      split at ha
      · rename_i e he
        obtain ⟨ht, ha⟩ := ite_some ha
        simp only [Option.some.injEq, Prod.mk.injEq] at ha
        obtain ⟨hok, hv⟩ := ha
        exact rowfin (len := some n) he rfl ht hok hx hv.symm
      · cases ha
    · obtain ⟨ht, ha⟩ := ite_some ha
      simp only [Option.some.injEq, Prod.mk.injEq] at ha
      obtain ⟨hok, rfl⟩ := ha
      have hx : [xv] = [Value.slice none 0 0] := hx
      simp only [List.cons.injEq, and_true] at hx
      exact Gives.same h (nilfin ht hok hx) (rfl : [Value.slice none 0 0] = _)
    · obtain ⟨ht, ha⟩ := ite_some ha
      simp only [Option.some.injEq, Prod.mk.injEq] at ha
      obtain ⟨hok, rfl⟩ := ha
      obtain ⟨ad, hx⟩ := (hx : ∃ a, [xv] = [Value.slice a 0 0])
      simp only [List.cons.injEq, and_true] at hx
      exact Gives.same h (nilfin ht hok hx) (⟨ad, rfl⟩ : ∃ a, [Value.slice ad 0 0] = [Value.slice a 0 0])
    · cases ha
  · cases ha

theorem arrOf_ok (hΓ : GamOk P Γ) {t : TypeId} {n k : Nat} (h : Γ.arrOf t n k = true) : ∃ e ti, P.underlying t = some (.array n e) ∧ TIOk P Γ e ti ∧ ti.cells = k := by
  unfold Gam.arrOf at h
  split at h
  · rename_i m e cl sc q ht
    split at h
    · rename_i ti hti
      obtain ⟨i, d, _, hu, _, hk⟩ := (hΓ t _ ht).info
      have hd : d = .array m e := hk
      subst hd
      simp only [Bool.and_eq_true] at h
      have h1 := Nat.eq_of_beq_eq_true h.1
      subst h1
      exact ⟨e, ti, hu, hΓ e ti hti, Nat.eq_of_beq_eq_true h.2⟩
    · cases h
  · cases h

theorem sliceA_ok (hΓ : GamOk P Γ) (h : StOk c w H ρ) {t : TypeId} {o : Nat} {v : AV} {lo hi : Option AV} {xv : Value} {vlo vhi : Option Value} (hx : RV w (Avoid c.X H ρ) H ρ (.ptr o []) xv) (hl : ∀ b, bnd lo = some b → BndIs vlo b) (hh : ∀ b, bnd hi = some b → BndIs vhi b)
    (ha : aSliceA Γ H t o lo hi = some (true, v)) : Gives P c w H ρ (Instr.sliceAt t xv vlo vhi none) v [] := by
  unfold aSliceA at ha
  split at ha
  · rename_i l u n s xs el eu hob
    obtain ⟨ht, ha⟩ := ite_some ha
    simp only [Option.some.injEq, Prod.mk.injEq] at ha
    obtain ⟨hok, rfl⟩ := ha
    have h1 := hl _ el
    have h2 := hh _ eu
    obtain ⟨e, ti, hu, hT, hsz⟩ := arrOf_ok hΓ ht
    rcases (hx : PtrR (ASt.obj H o) (ρ o) [] [xv]) with ⟨hg, _⟩ | ⟨_, g, C, off, ly, hly, hr, hcs⟩
    · rw [hob] at hg; cases hg
    · simp only [Lay.at_, Option.some.injEq, Prod.mk.injEq] at hly
      obtain ⟨rfl, _⟩ := hly
      simp only [List.cons.injEq, and_true] at hcs
      subst hcs
      have ho := h.obj o
      rw [hob] at ho
      obtain ⟨g', C', E, cur', a1, _, _, a4, _, a6⟩ := ho
      rw [hr] at a1; cases a1
      obtain ⟨hxn, _⟩ := (a4 : RepC w (Avoid c.X H ρ) (.arr n s) xs _)
      obtain ⟨hC, hCm⟩ := a6 ⟨s, xs⟩ rfl
      simp only at hC
      obtain ⟨b1, b2, b3, b4⟩ := okCut_bounds hok
      refine Gives.same h (val := .slice (some (if n = loOf l then ⟨g, 0, none⟩ else (⟨g, 0, none⟩ : Addr).add (loOf l * s.cells))) (hiOf n u - loOf l) (n - loOf l)) ?_ ?_
      · simp [Instr.sliceAt, run_underlying hu, Instr.sureAddr, run_bounds (P := P) (w := w) h1 h2 hok (Nat.le_refl n), run_sizeOf hT, hsz]
      · refine (⟨by rw [hob]; simp, ?_⟩ : SlR H ρ o (loOf l) (some (hiOf n u - loOf l)) [_])
        have he : (ASt.obj H o).elems = some ⟨s, xs⟩ := by rw [hob]; rfl
        simp only [he, Option.getD_some]
        refine ⟨_, _, rfl, by omega, by omega, by omega, ?_⟩
        rw [hr]
        simp only
        refine ⟨by omega, ?_⟩
        by_cases hn : n = loOf l
        · left; omega
        · right
          rw [if_neg hn, add_lit, Nat.zero_add]
  · cases ha

theorem sliceX_ok (hΓ : GamOk P Γ) (h : StOk c w H ρ) (hfr : FrOk w (Avoid c.X H ρ) H ρ cur a.tmps) {t : TypeId} {x : Operand} {lo hi mx : Option Operand} {v : AV}
    (ha : aSliceX Γ H t (isZero lo hi) (opnd cur x) (lo.map (opnd cur)) (hi.map (opnd cur)) (mx.map (opnd cur)) = some (true, v)) :
    Gives P c w H ρ (Instr.sliceAt t (a.eval x) (lo.map a.eval) (hi.map a.eval) (mx.map a.eval)) v [] := by
  have hb : ∀ (y : Option Operand) b, bnd (y.map (opnd cur)) = some b → BndIs (y.map a.eval) b := fun y b hy => bnd_ok hfr hy
  cases mx with
  | some m =>
    simp only [Option.map_some, aSliceX] at ha
    cases hi with
    | none => cases ha
    | some u =>
      simp only [Option.map_some] at ha
      refine slice3_ok hΓ h (opnd_ok hfr x) (hb lo) (hb (some u)) (hb (some m)) (fun hz => ?_) ha
      unfold isZero at hz
      split at hz
      · rename_i k e
        cases e
        refine ⟨rfl, ?_⟩
        have hwf : (Lit.int k 0).wf = true := by cases k <;> decide
        simp only [opnd, constAV, hwf, if_true, bnd, toI_ofI0]
      · cases hz
  | none =>
    simp only [Option.map_none, aSliceX] at ha
    split at ha
    · rename_i o e
      have hx := opnd_ok hfr x
      rw [e] at hx
      exact sliceA_ok hΓ h hx (hb lo) (hb hi) ha
    · exact slice_ok hΓ h hfr (mx := none) ha

theorem zerosN (z : Value) {s : Sch} (hz : z.cells.toList = zcells s) (n : Nat) : RepL (RepC w (Avoid c.X H ρ) s) (List.replicate n s.dflt) (Builtin.zeroCells z.cells n).toList := by
  have hlen : z.cells.size = s.cells := by rw [← Array.length_toList, hz]; exact RepC.length s (RepC.zero w (fun _ => False) s)
  have e : (Builtin.zeroCells z.cells n).toList = (List.replicate n (zcells s)).flatten := by
    rw [← hz]
    simp only [Builtin.zeroCells, Array.toList_map, Array.toList_range]
    induction n with
    | zero => simp
    | succ n ih =>
      rw [List.replicate_succ', List.flatten_append, ← ih, Nat.succ_mul, List.range_add, List.map_append]
      congr 1
      simp only [List.map_map, List.flatten_cons, List.flatten_nil, List.append_nil]
      apply List.ext_getElem?
      intro i
      rw [List.getElem?_map]
      rcases Nat.lt_or_ge i z.cells.size with hlt | hge
      · rw [List.getElem?_range hlt, Option.map_some, Function.comp, Nat.mul_comm n, Nat.mul_add_mod, Nat.mod_eq_of_lt hlt]
        simp [hlt]
      · rw [List.getElem?_eq_none (by simpa using hge), List.getElem?_eq_none (by simpa using hge)]; rfl
  rw [e]
  clear e
  induction n with
  | zero => simp [RepL]
  | succ n ih => exact ⟨_, _, rfl, RepC.zero _ _ s, ih⟩

theorem clear_ok (hΓ : GamOk P Γ) (h : StOk c w H ρ) {t ty : TypeId} {x v : AV} {xv : Value} {U : Upd} (hx : RV w (Avoid c.X H ρ) H ρ x xv) (ha : aClear Γ t x H = some (true, v, U)) :
    Gives P c w H ρ (Builtin.clear_ #[t] ty #[xv]) v U := by
  unfold aClear at ha
  cases hel : Γ.elem t with
  | none => simp [hel] at ha
  | some es =>
    obtain ⟨E, s⟩ := es
    simp only [hel] at ha
    obtain ⟨hu, hE⟩ := elem_ok hΓ hel
    obtain ⟨i, z, hi, hiz, hzc, hsz, _, _⟩ := SchOk.info hE
    have hzv : ∀ w, (zeroValue E).run P w = .ok z w := fun w => by simp [zeroValue, typeInfo, hi, hiz]
    have key : ∀ (o off : Nat) (len : Option Nat) (E' : TypeId) (xs : List s.T), ASt.obj H o = .row E' s xs false → SlR H ρ o off len [xv] →
        Gives P c w H ρ (Builtin.clear_ #[t] ty #[xv]) (.tup .un) [(o, .row E' s (xs.take off ++ List.replicate (len.getD xs.length) s.dflt ++ xs.drop (off + len.getD xs.length)) false)] := by
      intro o off len E' xs hob hv
      have he : (ASt.obj H o).elems = some ⟨s, xs⟩ := by rw [hob]; rfl
      have hv' := hv
      obtain ⟨_, hv'⟩ := hv'
      simp only [he] at hv'
      obtain ⟨ad, cap, hval, g1, g2, g3, g4⟩ := hv'
      simp only [List.cons.injEq, and_true] at hval
      subst hval
      generalize hdl : len.getD xs.length = n at *
      have hL := zerosN (c := c) (w := w) (H := H) (ρ := ρ) z hzc n
      obtain ⟨w', hrun, hT⟩ := write_elems (P := P) h (e := ⟨s, xs⟩) he (by rw [hob]; rfl) hv (ys := List.replicate n s.dflt) hL (by simp) (ob := .row E' s (xs.take off ++ List.replicate n s.dflt ++ xs.drop (off + n)) false)
        (by simp [AObj.elems]) (.inl ⟨E', false, hob, by simp⟩)
      refine ⟨.tuple #[], w', ρ, ?_, ⟨[], rfl, rfl⟩, hT⟩
      have h0 : (#[t] : Array TypeId)[0]? = some t := rfl
      cases ad with
      | none =>
        simp only [Result.ok.injEq, true_and] at hrun
        subst hrun
        simp [Builtin.clear_, run_underlying hu]
      | some p =>
        simp only at hrun
        cases n with
        | zero =>
          have hw : w' = w := by
            have e0 : (Builtin.zeroCells z.cells 0).toList = [] := by simp [Builtin.zeroCells]
            rw [e0] at hrun
            simp [storeCells] at hrun
            exact hrun.symm
          subst hw
          simp [Builtin.clear_, run_underlying hu]
        | succ n => simp [Builtin.clear_, run_underlying hu, hzv, hrun]
    have fin : ∀ (o off : Nat) (len : Option Nat), SlR H ρ o off len [xv] → (match ASt.obj H o with
      | .row E' s' xs false => if h : s' = s then
          let ys : List s.T := castT (s := .slc s') (t := .slc s) (by rw [h]) xs
          let n := len.getD ys.length
          some (true, AV.tup .un, [(o, AObj.row E' s (ys.take off ++ List.replicate n s.dflt ++ ys.drop (off + n)) false)])
        else none
      | _ => none : Ans) = some (true, v, U) → Gives P c w H ρ (Builtin.clear_ #[t] ty #[xv]) v U := by
      intro o off len hv hm
      split at hm
      · rename_i E' s' xs hob
        split at hm
        · rename_i hs
          subst hs
          simp only [castT, Option.some.injEq, Prod.mk.injEq, true_and] at hm
          obtain ⟨rfl, rfl⟩ := hm
          exact key o off len E' xs hob hv
        · cases hm
      · cases hm
    split at ha
    · exact fin _ 0 none hx ha
    · exact fin _ _ (some _) hx ha
    · cases ha
end
end Go.AI

/- Maps of the call's own. -/
noncomputable section
namespace Go.AI
open Go Go.RowKit

theorem toI_inj' : ∀ {k : IntKind} {a b : IT k}, toI k a = toI k b → a = b
  | .u8, _, _, h => UInt8.toNat_inj.1 (Int.ofNat.inj h)
  | .u32, _, _, h => UInt32.toNat_inj.1 (Int.ofNat.inj h)
  | .i8, _, _, h => h
  | .i16, _, _, h => h
  | .i32, _, _, h => h
  | .i64, _, _, h => h
  | .u16, _, _, h => h
  | .u64, _, _, h => h
theorem beqT_int {k : IntKind} {a b : IT k} : beqT (.int k) a b = true ↔ a = b := by
  show (toI k a == toI k b) = true ↔ _
  rw [beq_iff_eq]
  exact ⟨toI_inj', fun h => by rw [h]⟩
theorem mapOf_ok {P : Program} {Γ : Gam} (hΓ : GamOk P Γ) {t k v : TypeId} {ks vs : Sch} (h : Γ.mapOf t = some (k, v, ks, vs)) : P.underlying t = some (.map k v) ∧ Γ.sch k = some ks ∧ Γ.sch v = some vs := by
  unfold Gam.mapOf at h
  split at h
  · rename_i k' v' c s e ht
    split at h
    · rename_i ks' vs' h1 h2
      cases h
      obtain ⟨i, d, _, hu, _, hk⟩ := (hΓ t _ ht).info
      rw [(hk : d = .map k v)] at hu
      exact ⟨hu, h1, h2⟩
    · cases h
  · cases h

/-- Where a key stands. -/
theorem mfind_ok {q : IntKind} {y : IT q} {β : Type} : ∀ {m : List (IT q × β)} {es : List MapEntry}, es.map (·.key) = m.map (fun x => Value.int q (toI q x.1)) → ∀ n,
    (mfind (beqT (.int q)) y m = none ∧ (∀ x, x ∈ m → x.1 ≠ y) ∧ (∀ v, mput (beqT (.int q)) y v m = m ++ [(y, v)]) ∧ Instr.findNow (.int q) (.int q (toI q y)) es n = some none) ∨
    ∃ j e x, es[j]? = some e ∧ m[j]? = some x ∧ x.1 = y ∧ e.key = .int q (toI q y) ∧ mfind (beqT (.int q)) y m = some x.2 ∧ (∀ v, mput (beqT (.int q)) y v m = m.set j (y, v)) ∧ Instr.findNow (.int q) (.int q (toI q y)) es n = some (some (n + j, e.val))
  | [], [], _, n => .inl ⟨rfl, by simp, fun _ => rfl, rfl⟩
  | [], _ :: _, h, n => by simp at h
  | _ :: _, [], h, n => by simp at h
  | x :: m, e :: es, h, n => by
    simp only [List.map_cons, List.cons.injEq] at h
    cases hb : beqT (.int q) y x.1 with
    | true =>
      have hx := beqT_int.1 hb
      refine .inr ⟨0, e, x, rfl, rfl, hx.symm, by rw [h.1, hx], by simp [mfind, hb], fun v => by simp [mput, hb], ?_⟩
      simp [Instr.findNow, Instr.sameNow, h.1, hx]
    | false =>
      have hne : y ≠ x.1 := fun e => by rw [beqT_int.2 e] at hb; cases hb
      have hi : (toI q y == toI q x.1) = false := hb
      rcases mfind_ok (y := y) h.2 (n + 1) with ⟨h1, h2, h3, h4⟩ | ⟨j, e', x', h1, h2, h3, h4, h5, h6, h7⟩
      · refine .inl ⟨by simp [mfind, hb, h1], fun z hz => ?_, fun v => by simp [mput, hb, h3], ?_⟩
        · rcases List.mem_cons.1 hz with rfl | hz
          · exact fun e => hne e.symm
          · exact h2 z hz
        · simp only [Instr.findNow, Instr.sameNow, h.1, if_true, hi]; exact h4
      · refine .inr ⟨j + 1, e', x', h1, h2, h3, h4, by simp [mfind, hb, h5], fun v => by simp [mput, hb, h6], ?_⟩
        simp only [Instr.findNow, Instr.sameNow, h.1, if_true, hi]
        rw [h7]; simp only [Option.some.injEq, Prod.mk.injEq, and_true]; omega

theorem RepV.key {w : World} {A : Nat → Prop} {q : IntKind} {x : IT q} {v : Value} (h : RepV w A (.int q) x v) : v = .int q (toI q x) ∧ (Lit.int q (toI q x)).wf = true := by
  have h : RepC w A (.int q) x [v] := h
  obtain ⟨e, hw⟩ := h
  exact ⟨by simpa using e, hw⟩
theorem All2.keys {α β : Type} {R : α → β → Prop} {γ : Type} {f : α → γ} {g : β → γ} (h : ∀ x y, R x y → g y = f x) : ∀ {xs : List α} {ys : List β}, All2 R xs ys → ys.map g = xs.map f
  | [], ys, hr => by rw [(hr : ys = [])]; rfl
  | x :: xs, _, ⟨y, r, e, h1, h2⟩ => by subst e; rw [List.map_cons, List.map_cons, h _ _ h1, All2.keys h h2]
theorem All3.keys {α β δ : Type} {R : α → β → δ → Prop} {γ : Type} {f : α → γ} {g : β → γ} (h : ∀ x y z, R x y z → g y = f x) : ∀ {xs : List α} {ys : List β} {zs : List δ}, All3 R xs ys zs → ys.map g = xs.map f
  | [], ys, zs, hr => by rw [hr.1]; rfl
  | x :: xs, _, _, ⟨y, r, z, t, e, e', h1, h2⟩ => by subst e; rw [List.map_cons, List.map_cons, h _ _ _ h1, All3.keys h h2]
theorem All2.at_ {α β : Type} {R : α → β → Prop} : ∀ {xs : List α} {ys : List β} {j : Nat} {x : α} {y : β}, All2 R xs ys → xs[j]? = some x → ys[j]? = some y → R x y
  | [], _, j, _, _, _, h, _ => by simp at h
  | _ :: _, _, 0, _, _, ⟨y, r, e, h1, h2⟩, hx, hy => by subst e; cases hx; cases hy; exact h1
  | _ :: _, _, j + 1, _, _, ⟨y, r, e, h1, h2⟩, hx, hy => by subst e; exact All2.at_ h2 (by simpa using hx) (by simpa using hy)
theorem All2.set {α β : Type} {R : α → β → Prop} : ∀ {xs : List α} {ys : List β} (j : Nat) {x : α} {y : β}, All2 R xs ys → R x y → All2 R (xs.set j x) (ys.set j y)
  | [], ys, j, _, _, h, _ => by rw [(h : ys = [])]; rfl
  | _ :: _, _, 0, _, _, ⟨y, r, e, h1, h2⟩, hr => by subst e; exact ⟨_, r, rfl, hr, h2⟩
  | _ :: _, _, j + 1, _, _, ⟨y, r, e, h1, h2⟩, hr => by subst e; exact ⟨y, _, rfl, h1, All2.set j h2 hr⟩
theorem All2.push {α β : Type} {R : α → β → Prop} {x : α} {y : β} (hr : R x y) : ∀ {xs : List α} {ys : List β}, All2 R xs ys → All2 R (xs ++ [x]) (ys ++ [y])
  | [], ys, h => by rw [(h : ys = [])]; exact ⟨y, [], rfl, hr, rfl⟩
  | _ :: _, _, ⟨y', r, e, h1, h2⟩ => by subst e; exact ⟨y', _, rfl, h1, All2.push hr h2⟩
theorem All3.at_ {α β γ : Type} {R : α → β → γ → Prop} : ∀ {xs : List α} {ys : List β} {zs : List γ} {j : Nat} {x : α}, All3 R xs ys zs → xs[j]? = some x → ∃ y z, ys[j]? = some y ∧ zs[j]? = some z ∧ R x y z
  | [], _, _, j, _, _, h => by simp at h
  | _ :: _, _, _, 0, _, ⟨y, r, z, t, e, e', h1, h2⟩, hx => by subst e; subst e'; cases hx; exact ⟨y, z, rfl, rfl, h1⟩
  | _ :: _, _, _, j + 1, _, ⟨y, r, z, t, e, e', h1, h2⟩, hx => by
    subst e; subst e'
    obtain ⟨y', z', a, b, c⟩ := All3.at_ h2 (show _ = some _ by simpa using hx)
    exact ⟨y', z', by simpa using a, by simpa using b, c⟩
theorem All3.set {α β γ : Type} {R R' : α → β → γ → Prop} : ∀ {xs : List α} {ys : List β} {zs : List γ} (j : Nat) {x : α} {y : β} {z : γ}, All3 R xs ys zs → (∀ i x y z, i ≠ j → xs[i]? = some x → zs[i]? = some z → R x y z → R' x y z) → R' x y z → All3 R' (xs.set j x) (ys.set j y) (zs.set j z)
  | [], ys, zs, j, _, _, _, h, _, _ => by rw [h.1, h.2]; exact ⟨rfl, rfl⟩
  | _ :: _, _, _, 0, _, _, _, ⟨y, r, z, t, e, e', h1, h2⟩, hm, hr => by
    subst e; subst e'
    refine ⟨_, r, _, t, rfl, rfl, hr, ?_⟩
    have key : ∀ {xs : List α} {ys : List β} {zs : List γ}, All3 R xs ys zs → (∀ (i : Nat) (x : α) (y : β) (z : γ), xs[i]? = some x → zs[i]? = some z → R x y z → R' x y z) → All3 R' xs ys zs := by
      intro xs
      induction xs with
      | nil => intro ys zs h _; exact h
      | cons x xs ih =>
        rintro ys zs ⟨y, r, z, t, e, e', h1, h2⟩ hm
        subst e; subst e'
        exact ⟨y, r, z, t, rfl, rfl, hm 0 _ _ _ rfl rfl h1, ih h2 fun i x y z a b => hm (i + 1) x y z (by simpa using a) (by simpa using b)⟩
    exact key h2 fun (i : Nat) (x : α) (y : β) (z : γ) a b => hm (i + 1) x y z (by omega) (by simpa using a) (by simpa using b)
  | _ :: _, _, _, j + 1, _, _, _, ⟨y, r, z, t, e, e', h1, h2⟩, hm, hr => by
    subst e; subst e'
    exact ⟨y, _, z, _, rfl, rfl, hm 0 _ _ _ (by omega) rfl rfl h1, All3.set j h2 (fun i x y z hi a b => hm (i + 1) x y z (by omega) (by simpa using a) (by simpa using b)) hr⟩
theorem All3.push {α β γ : Type} {R : α → β → γ → Prop} {x : α} {y : β} {z : γ} (hr : R x y z) : ∀ {xs : List α} {ys : List β} {zs : List γ}, All3 R xs ys zs → All3 R (xs ++ [x]) (ys ++ [y]) (zs ++ [z])
  | [], ys, zs, h => by rw [h.1, h.2]; exact ⟨y, [], z, [], rfl, rfl, hr, rfl, rfl⟩
  | _ :: _, _, _, ⟨y', r, z', t, e, e', h1, h2⟩ => by subst e; subst e'; exact ⟨y', _, z', _, rfl, rfl, h1, All3.push hr h2⟩
theorem All3.len {α β γ : Type} {R : α → β → γ → Prop} : ∀ {xs : List α} {ys : List β} {zs : List γ}, All3 R xs ys zs → ys.length = xs.length ∧ zs.length = xs.length
  | [], _, _, h => by rw [h.1, h.2]; exact ⟨rfl, rfl⟩
  | _ :: _, _, _, ⟨y', r, z', t, e, e', h1, h2⟩ => by subst e; subst e'; simp [All3.len h2]

theorem All2.right {α β : Type} {R : α → β → Prop} : ∀ {xs : List α} {ys : List β} {j : Nat} {y : β}, All2 R xs ys → ys[j]? = some y → ∃ x, xs[j]? = some x ∧ R x y
  | [], ys, j, y, h, hy => by rw [(h : ys = [])] at hy; simp at hy
  | x :: _, _, 0, _, ⟨y, r, e, h1, h2⟩, hy => by subst e; cases hy; exact ⟨x, rfl, h1⟩
  | _ :: _, _, j + 1, _, ⟨y, r, e, h1, h2⟩, hy => by
    subst e
    obtain ⟨x, a, b⟩ := All2.right h2 (show _ = some _ by simpa using hy)
    exact ⟨x, by simpa using a, b⟩
theorem All2.left {α β : Type} {R : α → β → Prop} : ∀ {xs : List α} {ys : List β} {x : α}, All2 R xs ys → x ∈ xs → ∃ y, y ∈ ys ∧ R x y
  | _ :: _, _, _, ⟨y, r, e, h1, h2⟩, hx => by
    subst e
    rcases List.mem_cons.1 hx with rfl | hx
    · exact ⟨y, List.mem_cons_self, h1⟩
    · obtain ⟨y', a, b⟩ := All2.left h2 hx
      exact ⟨y', List.mem_cons_of_mem _ a, b⟩
theorem mfind_no {α β : Type} {eq : α → α → Bool} (hb : ∀ x y, eq x y = true ↔ x = y) {y : α} : ∀ {m : List (α × β)}, (∀ x, x ∈ m → x.1 ≠ y) → mfind eq y m = none ∧ ∀ v, mput eq y v m = m ++ [(y, v)]
  | [], _ => ⟨rfl, fun _ => rfl⟩
  | x :: m, h => by
    have hf : eq y x.1 = false := by
      cases e : eq y x.1 with
      | false => rfl
      | true => exact absurd ((hb _ _).1 e).symm (h x List.mem_cons_self)
    obtain ⟨h1, h2⟩ := mfind_no hb (m := m) (fun z hz => h z (List.mem_cons_of_mem _ hz))
    exact ⟨by simp [mfind, hf, h1], fun v => by simp [mput, hf, h2]⟩
theorem mfind_yes {α β : Type} {eq : α → α → Bool} (hb : ∀ x y, eq x y = true ↔ x = y) {y : α} : ∀ {m : List (α × β)} {j : Nat} {x : α × β}, m.Pairwise (fun a b => a.1 ≠ b.1) → m[j]? = some x → x.1 = y → mfind eq y m = some x.2 ∧ ∀ v, mput eq y v m = m.set j (y, v)
  | [], _, _, _, h, _ => by simp at h
  | z :: m, 0, x, _, h, hx => by
    cases h
    have ht : eq y z.1 = true := (hb _ _).2 hx.symm
    exact ⟨by simp [mfind, ht], fun v => by simp [mput, ht]⟩
  | z :: m, j + 1, x, ha, h, hx => by
    have ha := List.pairwise_cons.1 ha
    have hm : m[j]? = some x := by simpa using h
    have hf : eq y z.1 = false := by
      cases e : eq y z.1 with
      | false => rfl
      | true => exact absurd (((hb _ _).1 e).symm.trans hx.symm) (ha.1 x (List.mem_of_getElem? hm))
    obtain ⟨h1, h2⟩ := mfind_yes hb ha.2 hm hx
    exact ⟨by simp [mfind, hf, h1], fun v => by simp [mput, hf, h2]⟩
theorem keyT_ok {P : Program} {Γ : Gam} (hΓ : GamOk P Γ) {t k v : TypeId} {ks vs : Sch} (hm : Γ.mapOf t = some (k, v, ks, vs)) (h : Γ.keyT t = true) : KeyOk P k ks := by
  unfold Gam.keyT at h
  unfold Gam.mapOf at hm
  split at hm
  · rename_i k' v' c s e ht
    rw [ht] at h
    split at hm
    · rename_i ks' vs' h1 h2
      cases hm
      exact (hΓ t _ ht).key h k v ks rfl h1
    · cases hm
  · cases hm
/-- Where a key stands among a map's entries. -/
theorem findK {P : Program} {w : World} {A : Nat → Prop} {k : TypeId} {ks vs : Sch} (K : KeyOk P k ks) {m : List (ks.T × vs.T)} {es : List MapEntry} {clock : Nat} (hmo : MapOk w A ks vs m es clock) {y : ks.T} {u : Value} (hu : RepV w A ks y u) :
    (mfind (beqT ks) y m = none ∧ (∀ x, x ∈ m → x.1 ≠ y) ∧ (∀ v, mput (beqT ks) y v m = m ++ [(y, v)]) ∧ (Instr.findKey k u es).run P w = .ok none w) ∨
    ∃ j e x, es[j]? = some e ∧ m[j]? = some x ∧ x.1 = y ∧ e.key = u ∧ mfind (beqT ks) y m = some x.2 ∧ (∀ v, mput (beqT ks) y v m = m.set j (y, v)) ∧ (Instr.findKey k u es).run P w = .ok (some (j, e.val)) w := by
  obtain ⟨l, hl⟩ := K.isKey hu
  rcases K.keyed.find w hl es (fun e he => by
    obtain ⟨j, hj⟩ := List.mem_iff_getElem?.1 he
    obtain ⟨x, _, hx⟩ := All2.right hmo.all hj
    exact K.isKey hx.1) with ⟨h1, h2⟩ | ⟨j, e, h1, h2, h3⟩
  · have hn : ∀ x, x ∈ m → x.1 ≠ y := fun x hx e => by
      obtain ⟨e', he', hr⟩ := All2.left hmo.all hx
      rw [e] at hr
      exact h2 e' he' (K.eqv hr.1 hu)
    obtain ⟨a, b⟩ := mfind_no K.beq hn
    exact .inl ⟨a, hn, b, h1⟩
  · obtain ⟨x, hx, hr⟩ := All2.right hmo.all h2
    have hr := hr.1
    rw [h3] at hr
    have e1 := K.inj hr hu
    obtain ⟨a, b⟩ := mfind_yes K.beq hmo.apart hx e1
    exact .inr ⟨j, e, x, h2, hx, e1, h3, a, b, h1⟩

/-- A step that concerns some objects. -/
theorem Tr.many {P : Program} {c : Ctx P} {w w' : World} {H H' : List AObj} {ρ ρ' : Rho} (h : StOk c w H ρ) (S : Nat → Prop) (hk : Keeps (Avoid c.X H ρ) w w') (hc : Compat H ρ H' ρ') (hfr : Fr c w')
    (hH : ∀ o, ¬ S o → ASt.obj H' o = ASt.obj H o) (hρ : ∀ o, ¬ S o → ρ' o = ρ o)
    (hb : ∀ o, ¬ S o → (ASt.obj H o).live = true → ∀ g C, Hold (ASt.obj H o) (ρ o) g C → w'.heap[g]? = w.heap[g]?)
    (hfrom : ∀ o, S o → (ASt.obj H' o).live = true → ∀ b C', Hold (ASt.obj H' o) (ρ' o) b C' → (∃ o1 C, S o1 ∧ (ASt.obj H o1).mut = true ∧ Hold (ASt.obj H o1) (ρ o1) b C) ∨ w.heap.size ≤ b)
    (huniq : ∀ o1 o2 b C1 C2, S o1 → S o2 → (ASt.obj H' o1).live = true → (ASt.obj H' o2).live = true → Hold (ASt.obj H' o1) (ρ' o1) b C1 → Hold (ASt.obj H' o2) (ρ' o2) b C2 → o1 = o2)
    (hn : (∀ b, b < w.heap.size → Avoid c.X H' ρ' b → Avoid c.X H ρ b) → ∀ o, S o → ObjOk c w' (Avoid c.X H' ρ') H' ρ' o (ASt.obj H' o)) : Tr c w H ρ w' H' ρ' := by
  have hA : ∀ b, b < w.heap.size → Avoid c.X H' ρ' b → Avoid c.X H ρ b := by
    rintro b hbs (hx | ⟨o, C, hm, hr⟩)
    · exact .inl hx
    · by_cases hs : S o
      · rcases hfrom o hs (AObj.mut_live hm) b C hr with ⟨o1, C1, _, h2, h3⟩ | hge
        · exact .inr ⟨o1, C1, h2, h3⟩
        · omega
      · rw [hH o hs, hρ o hs] at hr
        rw [hH o hs] at hm
        exact .inr ⟨o, C, hm, hr⟩
  have mixed : ∀ o1 o2 b C1 C2, S o1 → ¬ S o2 → (ASt.obj H' o1).live = true → (ASt.obj H' o2).live = true → Hold (ASt.obj H' o1) (ρ' o1) b C1 → Hold (ASt.obj H' o2) (ρ' o2) b C2 → False := by
    intro o1 o2 b C1 C2 s1 s2 l1 l2 r1 r2
    rw [hH o2 s2, hρ o2 s2] at r2
    rw [hH o2 s2] at l2
    rcases hfrom o1 s1 l1 b C1 r1 with ⟨o3, C3, s3, m3, r3⟩ | hge
    · have := h.inj o3 o2 b C3 C2 (AObj.mut_live m3) l2 r3 r2
      subst this; exact s2 s3
    · have := (h.lt l2 r2).1; omega
  refine ⟨hk, hA, hc, ⟨fun o => ?_, fun o o' g C C' hl hl' hr hr' => ?_, hfr, h.old⟩⟩
  · by_cases hs : S o
    · exact hn hA o hs
    · rw [hH o hs]
      exact (h.obj o).mono hk hA hc (hρ o hs) (fun hl g C hr => hb o hs hl g C hr)
  · by_cases hs : S o <;> by_cases hs' : S o'
    · exact huniq o o' g C C' hs hs' hl hl' hr hr'
    · exact (mixed o o' g C C' hs hs' hl hl' hr hr').elim
    · exact (mixed o' o g C' C hs' hs hl' hl hr' hr).elim
    · rw [hH o hs, hρ o hs] at hr
      rw [hH o' hs', hρ o' hs'] at hr'
      rw [hH o hs] at hl
      rw [hH o' hs'] at hl'
      exact h.inj o o' g C C' hl hl' hr hr'
end Go.AI

/- Operations on maps. -/
noncomputable section
namespace Go.AI
open Go Go.RowKit

section
variable {P : Program} {Γ : Gam} {c : Ctx P} {w : World} {H : List AObj} {ρ : Rho}

theorem enc_nil {l : List (Nat × Nat)} (h : encF l = 0) : l = [] := encF_inj (m := []) h
theorem set_at {α : Type} {l : List α} {j : Nat} {x : α} (h : l[j]? = some x) : l.set j x = l := by
  obtain ⟨l1, rfl⟩ := List.getElem?_eq_some_iff.1 h
  exact List.set_getElem_self l1
theorem keySch_ok {s : Sch} (h : keySch s = true) : ∃ q, s = .int q := by
  cases s with
  | int q => exact ⟨q, rfl⟩
  | _ => cases h
theorem RepV.rv {A : Nat → Prop} {s : Sch} {x : s.T} {v : Value} (h : RepV w A s x v) : RV w A H ρ (.dat s x) v := h
theorem RepV.rv1 {A : Nat → Prop} {s : Sch} {x : s.T} {v : Value} (h : RepV w A s x v) : RV1 (RX w A H ρ (.dat s x)) (.dat s x) v := h
theorem hnd_map {A : Nat → Prop} {o : Nat} {v : Value} (hv : RV w A H ρ (.hnd .map o) v) (hl : (ASt.obj H o).live = true) : ∃ g C, ρ o = some (g, C) ∧ v = .map (some g) := by
  rcases (hv : HndR (ASt.obj H o) (ρ o) .map [v]) with ⟨hg, _⟩ | ⟨_, g, C, h1, h2⟩
  · rw [hg] at hl; cases hl
  · exact ⟨g, C, h1, by simpa [HK.mk] using h2⟩
/-- The zero of a type of one cell. -/
theorem zero_one (hΓ : GamOk P Γ) {t : TypeId} {s : Sch} (h : Γ.sch t = some s) (ha : s.agg = false) : ∃ z, (zeroValue t).run P w = .ok z w ∧ [z] = zcells s := by
  have hs := sch_ok hΓ h
  obtain ⟨i, z, hi, hz, hzc, _⟩ := SchOk.info hs
  refine ⟨z, by simp [zeroValue, typeInfo, hi, hz], ?_⟩
  unfold Gam.sch at h
  cases hg : Γ.at_ t with
  | none => simp [hg] at h
  | some ti =>
    simp only [hg, Option.bind_some] at h
    have h1 := (hΓ t ti hg).single (by rw [← ((hΓ t ti hg).sch s h).2]; exact ha) i z hi hz
    have : z.cells = #[z] := by cases z <;> first | rfl | simp [Value.oneCell'] at h1
    rw [← hzc, this]

theorem makeMap_ok (h : StOk c w H ρ) {t : TypeId} {nid : Nat} {v : AV} {U : Upd} (ha : aMakeMap Γ t H nid = some (true, v, U)) : Gives P c w H ρ (Instr.makeMap t none) v U := by
  have hrun : (Instr.makeMap t none).run P w = .ok (.map (some w.heap.size)) (w.alloc (.map #[] 0)) := by simp [Instr.makeMap, Result.andThen]
  have give : ∀ (x : XObj), XOk P w (Avoid c.X H ρ) H ρ 0 (.map #[] 0) x → ∀ U', newObj? H nid (.oth x) = some U' → Gives P c w H ρ (Instr.makeMap t none) (.hnd .map nid) U' := by
    intro x hx U' hU
    obtain ⟨hlt, hfree, rfl⟩ := newObj_some hU
    have T := Tr.allocX h hlt hfree (x := x) (C := 0) (hob := .map #[] 0) (fun _ b cap l he hm => by rw [enc_nil he] at hm; cases hm) hx
    refine ⟨_, _, _, hrun, ?_, T⟩
    refine RV.one rfl (?_ : HndR _ _ _ _)
    show HndR (ASt.obj (H.set nid (.oth x)) nid) (updR ρ nid _ nid) .map [_]
    rw [obj_set_same hlt, updR_same]
    exact .inr ⟨rfl, _, _, rfl, rfl⟩
  unfold aMakeMap at ha
  split at ha
  · rename_i k v' ks vs _
    obtain ⟨_, ha⟩ := ite_some ha
    split at ha
    · rename_i E s _
      cases hkt : Γ.keyT t with
      | true =>
       rw [hkt] at ha
       cases hU : newObj? H nid (.oth (.mp k v' ks vs [])) with
       | none => rw [hU] at ha; cases ha
       | some U' =>
        rw [hU] at ha; cases ha
        exact give (.mp k v' ks vs []) ⟨#[], 0, rfl, ⟨rfl, .nil, Nat.zero_le _, .nil⟩⟩ _ hU
      | false =>
      rw [hkt] at ha
      cases hU : newObj? H nid (.oth (.mps k v' E ks s [] none)) with
      | none => rw [hU] at ha; cases ha
      | some U' =>
        rw [hU] at ha; cases ha
        exact give (.mps k v' E ks s [] none) ⟨#[], 0, [], rfl, rfl, ⟨⟨rfl, rfl⟩, .nil, .nil, Nat.zero_le _, .nil⟩⟩ _ hU
    · cases hU : newObj? H nid (.oth (.mp k v' ks vs [])) with
      | none => rw [hU] at ha; cases ha
      | some U' =>
        rw [hU] at ha; cases ha
        exact give (.mp k v' ks vs []) ⟨#[], 0, rfl, ⟨rfl, .nil, Nat.zero_le _, .nil⟩⟩ _ hU
  · cases ha

/-- The model's lookup. -/
theorem run_lookup {t k v : TypeId} {q : IntKind} {g : Nat} {es : Array MapEntry} {clock : Nat} {a : Int} (ht : P.underlying t = some (.map k v)) (hk : P.underlying k = some (.int q)) (hb : w.heap[g]? = some (.map es clock))
    {r : Option (Nat × Value)} (hf : Instr.findNow (.int q) (.int q a) es.toList 0 = some r) {z : Value} (hz : r = none → (zeroValue v).run P w = .ok z w) (ok : Bool) :
    (Instr.lookup t (.map (some g)) (.int q a) ok).run P w = .ok (if ok then .tuple #[(r.map (·.2)).getD z, .bool r.isSome] else (r.map (·.2)).getD z) w := by
  have hkey : MapKept.IsKey (.int q) (.int q a) := rfl
  cases r with
  | none => cases ok <;> simp [Instr.lookup, run_underlying ht, MapKept.run_getObj_map hb, MapKept.run_checkKey hk hkey, MapKept.run_findKey hk hf, hz rfl, Result.andThen]
  | some x => cases ok <;> simp [Instr.lookup, run_underlying ht, MapKept.run_getObj_map hb, MapKept.run_checkKey hk hkey, MapKept.run_findKey hk hf, Result.andThen]

theorem run_lookupK {t k v : TypeId} {ks : Sch} (K : KeyOk P k ks) {g : Nat} {es : Array MapEntry} {clock : Nat} {u : Value} {l : Lit} (ht : P.underlying t = some (.map k v)) (hl : keyOf P k u = some l) (hb : w.heap[g]? = some (.map es clock))
    {r : Option (Nat × Value)} (hf : (Instr.findKey k u es.toList).run P w = .ok r w) {z : Value} (hz : r = none → (zeroValue v).run P w = .ok z w) (ok : Bool) :
    (Instr.lookup t (.map (some g)) u ok).run P w = .ok (if ok then .tuple #[(r.map (·.2)).getD z, .bool r.isSome] else (r.map (·.2)).getD z) w := by
  cases r with
  | none => cases ok <;> simp [Instr.lookup, run_underlying ht, MapKept.run_getObj_map hb, K.keyed.check w _ hl, hf, hz rfl, Result.andThen]
  | some x => cases ok <;> simp [Instr.lookup, run_underlying ht, MapKept.run_getObj_map hb, K.keyed.check w _ hl, hf, Result.andThen]

/-- What is known of a map of own slices. -/
theorem mps_open (h : StOk c w H ρ) {o : Nat} {k v E : TypeId} {ks s : Sch} {m : List (ks.T × List s.T)} {lent : Option ks.T} (ho : ASt.obj H o = .oth (.mps k v E ks s m lent)) : ∃ g es clock bl, ρ o = some (g, encF bl) ∧ Own c g ∧ w.heap[g]? = some (.map es clock) ∧
    MpsOk w (Avoid c.X H ρ) E ks s lent m es.toList bl clock ∧ (∀ b cap, (b, cap + 1) ∈ bl → Own c b ∧ b ≠ g ∧ b < w.heap.size) := by
  have := h.obj o
  rw [ho] at this
  obtain ⟨g, C, hob, h1, h2, h3, ⟨es, clock, bl, rfl, rfl, h4⟩, h5⟩ := this
  exact ⟨g, es, clock, bl, h1, h2, h3, h4, fun b cap hm => h5 rfl b cap bl rfl hm⟩
theorem mps_hold {k v E : TypeId} {ks s : Sch} {m : List (ks.T × List s.T)} {lent : Option ks.T} {r : Option (Nat × Nat)} {g : Nat} {bl : List (Nat × Nat)} (hr : r = some (g, encF bl)) {b cap : Nat} (hm : (b, cap + 1) ∈ bl) :
    Hold (.oth (.mps k v E ks s m lent)) r b (encF bl) := .inr ⟨rfl, g, cap, bl, hr, rfl, hm⟩
theorem mps_held {k v E : TypeId} {ks s : Sch} {m : List (ks.T × List s.T)} {lent : Option ks.T} {g b C : Nat} {bl : List (Nat × Nat)} (h : Hold (.oth (.mps k v E ks s m lent)) (some (g, encF bl)) b C) : b = g ∨ ∃ cap, (b, cap + 1) ∈ bl := by
  rcases h with h | ⟨_, g', cap, l, h1, h2, h3⟩
  · cases h; exact .inl rfl
  · cases h1; rw [encF_inj h2] at h3; exact .inr ⟨cap, h3⟩
theorem succ_mem {bl : List (Nat × Nat)} {p : Nat × Nat} (hp : p ∈ bl) (h0 : 0 < p.2) : (p.1, p.2 - 1 + 1) ∈ bl := by
  obtain ⟨a, b⟩ := p
  rw [show b - 1 + 1 = b from Nat.succ_pred_eq_of_pos h0]; exact hp
theorem two_at {bl : List (Nat × Nat)} (h : bl.Pairwise fun p q => p.2 ≠ 0 → q.2 ≠ 0 → p.1 ≠ q.1) {i j : Nat} {p q : Nat × Nat} (hi : bl[i]? = some p) (hj : bl[j]? = some q) (hij : i ≠ j) (hp : p.2 ≠ 0) (hq : q.2 ≠ 0) : p.1 ≠ q.1 := by
  rw [List.pairwise_iff_getElem] at h
  obtain ⟨li, rfl⟩ := List.getElem?_eq_some_iff.1 hi
  obtain ⟨lj, rfl⟩ := List.getElem?_eq_some_iff.1 hj
  rcases Nat.lt_or_gt_of_ne hij with hlt | hlt
  · exact h i j li lj hlt hp hq
  · exact fun e => h j i lj li hlt hq hp e.symm
theorem two_set {bl : List (Nat × Nat)} (h : bl.Pairwise fun p q => p.2 ≠ 0 → q.2 ≠ 0 → p.1 ≠ q.1) (j : Nat) {b cap : Nat} (hb : cap = 0 ∨ ∀ i p, i ≠ j → bl[i]? = some p → p.2 ≠ 0 → p.1 ≠ b) : (bl.set j (b, cap)).Pairwise fun p q => p.2 ≠ 0 → q.2 ≠ 0 → p.1 ≠ q.1 := by
  rw [List.pairwise_iff_getElem] at h ⊢
  intro i k hi hk hik hp hq
  rw [List.length_set] at hi hk
  simp only [List.getElem_set] at hp hq ⊢
  split <;> split
  · omega
  · rename_i e1 e2
    rw [if_pos e1] at hp; rw [if_neg e2] at hq
    rcases hb with hb | hb
    · exact absurd hb hp
    · exact (hb k _ (Ne.symm e2) (List.getElem?_eq_getElem hk) hq).symm
  · rename_i e1 e2
    rw [if_neg e1] at hp; rw [if_pos e2] at hq
    rcases hb with hb | hb
    · exact absurd hb hq
    · exact hb i _ (Ne.symm e1) (List.getElem?_eq_getElem hi) hp
  · rename_i e1 e2
    rw [if_neg e1] at hp; rw [if_neg e2] at hq
    exact h i k hi hk hik hp hq
theorem all3_mem {α β γ : Type} {R R' : α → β → γ → Prop} : ∀ {xs : List α} {ys : List β} {zs : List γ}, All3 R xs ys zs → (∀ x y z, x ∈ xs → z ∈ zs → R x y z → R' x y z) → All3 R' xs ys zs
  | [], _, _, h, _ => h
  | _ :: _, _, _, ⟨y, r, z, t, e, e', h1, h2⟩, hm => by
    subst e; subst e'
    exact ⟨y, r, z, t, rfl, rfl, hm _ _ _ List.mem_cons_self List.mem_cons_self h1, all3_mem h2 fun x y z hx hz => hm x y z (List.mem_cons_of_mem _ hx) (List.mem_cons_of_mem _ hz)⟩
theorem EntOk.mono {w' : World} {A A' : Nat → Prop} (hk : Keeps A w w') (hA : ∀ b, b < w.heap.size → A' b → A b) {E : TypeId} {ks s : Sch} {lent lent' : Option ks.T} {clock clock' : Nat} {x : ks.T × List s.T} {e : MapEntry} {p : Nat × Nat} (hc : clock ≤ clock')
    (hb : 0 < p.2 → w'.heap[p.1]? = w.heap[p.1]?) (hl : p.2 = 0 → lent = some x.1 → lent' = some x.1) (h : EntOk w A E ks s lent clock x e p) : EntOk w' A' E ks s lent' clock' x e p := by
  obtain ⟨h1, h2, h3⟩ := h
  refine ⟨h1.mono fun _ => RepC.keeps hk hA ks, Nat.lt_of_lt_of_le h2 hc, ?_⟩
  rcases h3 with ⟨a, b, d⟩ | ⟨a1, a2, a3, a4, cur, D, ⟨fr, b1, b2⟩, a5, a5b, a5c, a6⟩
  · exact .inl ⟨a, hl a b, d⟩
  · exact .inr ⟨a1, a2, a3, a4, cur, D, ⟨fr, (hb (Nat.lt_of_lt_of_le a1 a2)).trans b1, b2⟩, a5, a5b, a5c, RepL.mono (fun x c => RepC.keeps hk hA s) a6⟩

theorem born_push {es : List MapEntry} {clock : Nat} {k u : Value} (h : es.Pairwise fun a b => a.born < b.born) (hc : ∀ e ∈ es, e.born < clock) : (es ++ [({ key := k, val := u, born := clock } : MapEntry)]).Pairwise fun a b => a.born < b.born := by
  rw [List.pairwise_append]
  refine ⟨h, List.pairwise_singleton _ _, fun a ha b hb => ?_⟩
  rw [List.mem_singleton] at hb; subst hb
  exact hc a ha
theorem born_set {es : List MapEntry} {j : Nat} {e e' : MapEntry} (h : es.Pairwise fun a b => a.born < b.born) (hj : es[j]? = some e) (he : e'.born = e.born) : (es.set j e').Pairwise fun a b => a.born < b.born := by
  have e1 : (es.set j e').map MapEntry.born = es.map MapEntry.born := by
    rw [List.map_set]
    exact set_at (by rw [List.getElem?_map, hj]; simp [he])
  have e2 : (es.map MapEntry.born).Pairwise (· < ·) := List.pairwise_map.2 h
  rw [← e1] at e2
  exact List.pairwise_map.1 e2
theorem All2.mem_right' {α β : Type} {R : α → β → Prop} {xs : List α} {ys : List β} (h : All2 R xs ys) : ∀ y ∈ ys, ∃ x, R x y := fun y hy => by
  obtain ⟨j, hj⟩ := List.mem_iff_getElem?.1 hy
  obtain ⟨x, _, hR⟩ := All2.right h hj
  exact ⟨x, hR⟩
theorem All3.mem_mid {α β γ : Type} {R : α → β → γ → Prop} : ∀ {xs : List α} {ys : List β} {zs : List γ}, All3 R xs ys zs → ∀ y ∈ ys, ∃ x z, R x y z
  | [], _, _, h, y, hy => by rw [h.1] at hy; cases hy
  | _ :: _, _, _, ⟨y', r, z', t, e, e', h1, h2⟩, y, hy => by
    subst e
    rcases List.mem_cons.1 hy with rfl | hy
    · exact ⟨_, _, h1⟩
    · exact All3.mem_mid h2 y hy

/-- A slice of a map is lent. -/
theorem Tr.lend (h : StOk c w H ρ) {o nid : Nat} {k v E : TypeId} {q : IntKind} {s : Sch} {m : List (IT q × List s.T)} (ho : ASt.obj H o = .oth (.mps k v E (.int q) s m none)) (hlt : nid < H.length) (hfree : ASt.obj H nid = .free) {g : Nat} {es : Array MapEntry} {clock : Nat} {bl : List (Nat × Nat)}
    (hr : ρ o = some (g, encF bl)) (hb : w.heap[g]? = some (.map es clock)) (hm : MpsOk w (Avoid c.X H ρ) E (.int q) s none m es.toList bl clock) {j : Nat} {x : IT q × List s.T} (hj : m[j]? = some x) :
    ∃ (e : MapEntry) (p : Nat × Nat) (D : Nat), es.toList[j]? = some e ∧ e.val = .slice (some ⟨p.1, 0, none⟩) x.2.length p.2 ∧ x.2.length ≤ p.2 ∧ p.2 ≤ D ∧ D ≤ maxLen ∧
      Tr c w H ρ w ((H.set o (.oth (.mps k v E (.int q) s m (some x.1)))).set nid (.row E s x.2 false)) (updR (updR ρ o (some (g, encF (bl.set j (p.1, 0))))) nid (some (p.1, D))) := by
  obtain ⟨e, p, he, hp, hent⟩ := hm.all.at_ hj
  obtain ⟨hkey, hborn, hor⟩ := hent
  rcases hor with ⟨_, hl, _⟩ | ⟨a1, a2, a3, a4, cur, D, hblk, a5, a5b, a5c, a6⟩
  · cases hl
  refine ⟨e, p, D, he, a4, a2, a5b, a5c, ?_⟩
  obtain ⟨g', _, _, bl', r1, own, _, _, hown⟩ := mps_open h ho
  rw [hr] at r1
  have eg : g = g' := (Prod.mk.inj (Option.some.inj r1)).1
  have eb : bl' = bl := by
    have := (Prod.mk.inj (Option.some.inj r1)).2
    exact (encF_inj this).symm
  subst eg; subst eb
  have hpm : p ∈ bl' := List.mem_of_getElem? hp
  have hp0 : 0 < p.2 := Nat.lt_of_lt_of_le a1 a2
  have hpo := hown p.1 (p.2 - 1) (succ_mem hpm hp0)
  have hon : o ≠ nid := by rintro rfl; rw [ho] at hfree; cases hfree
  have holt : o < H.length := obj_lt (by rw [ho]; simp)
  have ob1 : ASt.obj ((H.set o (.oth (.mps k v E (.int q) s m (some x.1)))).set nid (.row E s x.2 false)) o = .oth (.mps k v E (.int q) s m (some x.1)) := by rw [obj_set_other (Ne.symm hon), obj_set_same holt]
  have ob2 : ASt.obj ((H.set o (.oth (.mps k v E (.int q) s m (some x.1)))).set nid (.row E s x.2 false)) nid = .row E s x.2 false := obj_set_same (by simpa using hlt) _
  have ob3 : ∀ n, n ≠ o → n ≠ nid → ASt.obj ((H.set o (.oth (.mps k v E (.int q) s m (some x.1)))).set nid (.row E s x.2 false)) n = ASt.obj H n := fun n h1 h2 => by rw [obj_set_other (Ne.symm h2), obj_set_other (Ne.symm h1)]
  have rh1 : updR (updR ρ o (some (g, encF (bl'.set j (p.1, 0))))) nid (some (p.1, D)) o = some (g, encF (bl'.set j (p.1, 0))) := by rw [updR_other hon, updR_same]
  have rh2 : updR (updR ρ o (some (g, encF (bl'.set j (p.1, 0))))) nid (some (p.1, D)) nid = some (p.1, D) := updR_same _ _
  have inbl : ∀ {b cap}, (b, cap + 1) ∈ bl'.set j (p.1, 0) → ∃ i, i ≠ j ∧ bl'[i]? = some (b, cap + 1) := by
    intro b cap hmem
    obtain ⟨i, hi⟩ := List.mem_iff_getElem?.1 hmem
    rw [List.getElem?_set] at hi
    split at hi
    · split at hi
      · cases hi
      · cases hi
    · rename_i hne; exact ⟨i, Ne.symm hne, hi⟩
  have hold : (ASt.obj H o).mut = true := by rw [ho]; rfl
  refine Tr.many h (fun n => n = o ∨ n = nid) (Keeps.refl _ _) (fun n hn => ?_) h.fr (fun n hn => ob3 n (fun e => hn (.inl e)) (fun e => hn (.inr e)))
    (fun n hn => by rw [updR_other (fun e => hn (.inr e)), updR_other (fun e => hn (.inl e))]) (fun _ _ _ _ _ _ => rfl) ?_ ?_ ?_
  · by_cases h1 : n = o
    · subst h1
      rw [ob1, rh1]
      exact .inr ⟨by rw [ho]; rfl, by rw [ho]; rfl, by rw [ho]; rfl, rfl, by rw [hr]; rfl, fun hf => by rw [ho] at hf; cases hf⟩
    · by_cases h2 : n = nid
      · subst h2; exact absurd hfree hn
      · rw [ob3 n h1 h2, updR_other h2, updR_other h1]; exact Compat.refl H ρ n hn
  · rintro n (rfl | rfl) hl b C' hh
    · left
      rw [ob1, rh1] at hh
      refine ⟨n, encF bl', .inl rfl, hold, ?_⟩
      rw [ho]
      rcases mps_held hh with rfl | ⟨cap, hmem⟩
      · exact .own hr
      · obtain ⟨i, _, hi⟩ := inbl hmem
        exact mps_hold hr (List.mem_of_getElem? hi)
    · left
      rw [ob2, rh2] at hh
      have := Hold.flat rfl hh
      cases this
      exact ⟨o, encF bl', .inl rfl, hold, by rw [ho]; exact mps_hold hr (succ_mem hpm hp0)⟩
  · have key : ∀ b C1 C2, Hold (.oth (.mps k v E (.int q) s m (some x.1))) (some (g, encF (bl'.set j (p.1, 0)))) b C1 → Hold (.row E s x.2 false) (some (p.1, D)) b C2 → False := by
      intro b C1 C2 h1 h2
      have := Hold.flat rfl h2
      cases this
      rcases mps_held h1 with e1 | ⟨cap, hmem⟩
      · exact hpo.2.1 e1
      · obtain ⟨i, hij, hi⟩ := inbl hmem
        exact two_at hm.two hi hp hij (by simp) (by omega) rfl
    rintro o1 o2 b C1 C2 (rfl | rfl) (rfl | rfl) l1 l2 r1 r2
    · rfl
    · rw [ob1, rh1] at r1; rw [ob2, rh2] at r2; exact (key _ _ _ r1 r2).elim
    · rw [ob2, rh2] at r1; rw [ob1, rh1] at r2; exact (key _ _ _ r2 r1).elim
    · rfl
  · rintro hA n (rfl | rfl)
    · rw [ob1]
      refine ⟨g, encF (bl'.set j (p.1, 0)), .map es clock, rh1, own, hb, ⟨es, clock, _, rfl, rfl, ⟨?_, hm.apart, two_set hm.two j (.inl rfl), hm.short, hm.born⟩⟩, fun _ b cap l hl hmem => ?_⟩
      · have e1 := set_at hj
        have e2 := set_at he
        rw [← e2]
        conv => arg 2; rw [← e1]
        refine All3.set j hm.all (fun i x' e' p' hij hx' hp' hR => hR.mono (Keeps.refl _ _) hA (Nat.le_refl _) (fun _ => rfl) (fun _ hl => by cases hl)) ⟨hkey.mono fun _ => RepC.keeps (Keeps.refl _ _) hA _, hborn, .inl ⟨rfl, rfl, by rw [a4]; rfl⟩⟩
      · rw [encF_inj hl] at hmem
        obtain ⟨i, _, hi⟩ := inbl hmem
        exact hown b cap (List.mem_of_getElem? hi)
    · rw [ob2]
      exact .inr ⟨p.1, D, rh2, hpo.1, cur, E, hblk, fun _ => rfl, a5, Nat.le_trans a2 a5b, a5c, RepL.mono (fun x c => RepC.keeps (Keeps.refl _ _) hA s) a6⟩

theorem lookup_ok (hΓ : GamOk P Γ) (h : StOk c w H ρ) {mv : Bool} {t : TypeId} {m x v : AV} {mval xv : Value} {ok : Bool} {nid : Nat} {U : Upd} (hm : RV w (Avoid c.X H ρ) H ρ m mval) (hx : RV w (Avoid c.X H ρ) H ρ x xv)
    (ha : aLookup mv Γ t m x ok H nid = some (true, v, U)) : Gives P c w H ρ (Instr.lookup t mval xv ok) v U := by
  unfold aLookup at ha
  split at ha
  · rename_i k vt ks vs ht
    obtain ⟨hu, hk, hv⟩ := mapOf_ok hΓ ht
    split at ha
    · rename_i o s y
      split at ha
      · rename_i k' v' ks' vs' l ho
        split at ha
        · rename_i hs
          obtain ⟨⟨rfl, rfl, rfl, rfl, hks, hag⟩, hz1⟩ := ite_some ha
          clear ha
          have ha := hz1
          clear hz1
          have K := keyT_ok hΓ ht hks
          subst hs
          simp only [castT] at ha
          obtain ⟨g, C, hr, rfl⟩ := hnd_map hm (by rw [ho]; rfl)
          have hob := h.obj o
          rw [ho] at hob
          obtain ⟨g', C', hb, h1, _, h3, ⟨es, clock, rfl, hmo⟩, _⟩ := hob
          rw [hr] at h1; cases h1
          obtain ⟨lk, hlk⟩ := K.isKey (show RepV w (Avoid c.X H ρ) _ y xv from hx)
          obtain ⟨z, hz, hzc⟩ := zero_one (w := w) hΓ hv hag
          have hzr : RepV w (Avoid c.X H ρ) vs' vs'.dflt z := by
            unfold RepV
            rw [if_neg (by simp [hag]), hzc]; exact RepC.zero _ _ _
          have fin : ∀ (r : Option vs'.T) (u : Value), RepV w (Avoid c.X H ρ) vs' (r.getD vs'.dflt) u → ∀ v' U', (some (true, (if ok = true then AV.tup (.pr (.dat vs' (r.getD vs'.dflt)) (.pr (.dat .bool r.isSome) .un)) else AV.dat vs' (r.getD vs'.dflt)), ([] : Upd)) : Ans) = some (true, v', U') →
              (Instr.lookup t (.map (some g)) xv ok).run P w = .ok (if ok then .tuple #[u, .bool r.isSome] else u) w → Gives P c w H ρ (Instr.lookup t (.map (some g)) xv ok) v' U' := by
            intro r u hu v' U' e hrun
            cases e
            refine ⟨_, w, ρ, hrun, ?_, Tr.refl h⟩
            cases ok with
            | false => exact hu
            | true => exact ⟨[u, .bool r.isSome], rfl, u, _, rfl, hu, .bool r.isSome, [], rfl, (rfl : [Value.bool r.isSome] = [Value.bool r.isSome]), rfl⟩
          rcases findK K hmo (y := y) (u := xv) hx with ⟨f1, _, _, f4⟩ | ⟨j, e, x, j1, j2, _, _, j5, _, j7⟩
          · rw [f1] at ha
            exact fin none z hzr _ _ ha (run_lookupK K hu hlk h3 f4 (fun _ => hz) ok)
          · rw [j5] at ha
            exact fin (some x.2) e.val (hmo.all.at_ j2 j1).2.1 _ _ ha (run_lookupK K hu hlk h3 j7 (z := z) (fun hn => by cases hn) ok)
        · cases ha
      · rename_i k' v' E ks' s' l ho
        split at ha
        · rename_i hs
          obtain ⟨⟨rfl, rfl, rfl, hel, hks, hok⟩, hz1⟩ := ite_some ha
          clear ha
          have ha := hz1
          clear hz1
          obtain ⟨q, rfl⟩ := keySch_ok hks
          subst hs
          subst hok
          simp only [castT] at ha
          obtain ⟨g, C, hr, rfl⟩ := hnd_map hm (by rw [ho]; rfl)
          obtain ⟨g', es, clock, bl, h1, own, h3, hmo, hown⟩ := mps_open h ho
          rw [hr] at h1; cases h1
          obtain ⟨rfl, hwf⟩ := RV.int hx
          have hkt : P.underlying k' = some (.int q) := (sch_ok hΓ hk).2
          have hkeys := hmo.all.keys (f := fun x => Value.int q (toI q x.1)) (g := (·.key)) (fun x e p he => he.1.key.1)
          have hsv : Γ.sch v' = some vs := hv
          have hzn : (zeroValue v').run P w = .ok (.slice none 0 0) w := by
            have e1 := (elem_ok hΓ hel).1
            have e2 := sch_ok hΓ hsv
            have : ∃ s2, vs = .slc s2 := by
              cases vs with
              | slc s2 => exact ⟨s2, rfl⟩
              | int _ => have := e2.2; rw [e1] at this; cases this
              | bool => have := e2.2; rw [e1] at this; cases this
              | str => have := e2.2; rw [e1] at this; cases this
              | arr _ _ => obtain ⟨_, h2, _⟩ := e2.2; rw [e1] at h2; cases h2
              | pair _ _ => obtain ⟨_, h2⟩ := e2.2; rw [e1] at h2; cases h2
              | unit => obtain ⟨_, h2⟩ := e2.2; rw [e1] at h2; cases h2
            obtain ⟨s2, rfl⟩ := this
            obtain ⟨z, hz, hzc⟩ := zero_one (w := w) hΓ hsv rfl
            have : z = .slice none 0 0 := by simpa [zcells] using hzc
            rw [this] at hz; exact hz
          cases mv with
          | false =>
            simp only [cond_false] at ha
            rcases mfind_ok (y := y) hkeys 0 with ⟨f1, _, _, f4⟩ | ⟨j, e, x, j1, j2, _, _, j5, _, j7⟩
            · rw [f1] at ha; cases ha
              refine ⟨_, w, ρ, run_lookup hu hkt h3 f4 (fun _ => hzn) false, ?_, Tr.refl h⟩
              exact RV.one rfl ((⟨none, 0, rfl, rfl, Nat.le_refl _, Nat.zero_le _⟩ : ∃ a cap, [Value.slice none 0 0] = [Value.slice a 0 cap] ∧ a.isNone = true ∧ 0 ≤ cap ∧ cap ≤ maxLen))
            · rw [j5] at ha; cases ha
              obtain ⟨e', p, he', hp', _, _, hor⟩ := hmo.all.at_ j2
              rw [j1] at he'; cases he'
              rcases hor with ⟨_, hl, _⟩ | ⟨a1, a2, a3, a4, _⟩
              · cases hl
              refine ⟨_, w, ρ, run_lookup hu hkt h3 j7 (z := .slice none 0 0) (fun hn => by cases hn) false, ?_, Tr.refl h⟩
              show RV _ _ _ _ _ e.val
              rw [a4]
              exact RV.one rfl ((⟨_, _, rfl, rfl, a2, a3⟩ : ∃ a cap, [Value.slice (some ⟨p.1, 0, none⟩) x.2.length p.2] = [Value.slice a x.2.length cap] ∧ a.isNone = false ∧ x.2.length ≤ cap ∧ cap ≤ maxLen))
          | true =>
            simp only [cond_true] at ha
            rcases mfind_ok (y := y) hkeys 0 with ⟨f1, _, _, f4⟩ | ⟨j, e, x, j1, j2, jx, _, j5, _, j7⟩
            · rw [f1] at ha
              cases hU : newObj? H nid (.row E s' ((none : Option (List s'.T)).getD []) false) with
              | none => rw [hU] at ha; cases ha
              | some U' => rw [hU] at ha; cases ha
            · rw [j5] at ha
              cases hU : newObj? H nid (.row E s' ((some x.2).getD []) false) with
              | none => rw [hU] at ha; cases ha
              | some U' =>
                rw [hU] at ha; cases ha
                obtain ⟨hlt, hfree, rfl⟩ := newObj_some hU
                obtain ⟨e', p, D, he', hval, a2, a3, a3b, T⟩ := Tr.lend h ho hlt hfree hr h3 hmo j2
                rw [j1] at he'; cases he'
                rw [jx] at T
                refine ⟨_, w, _, run_lookup hu hkt h3 j7 (z := .slice none 0 0) (fun hn => by cases hn) false, ?_, T⟩
                show RV _ _ _ _ _ e.val
                rw [hval]
                exact rv_row (obj_set_same (by simpa using hlt) _) (updR_same _ _) a2 a3 a3b
        · cases ha
      · cases ha
    · cases ha
  · cases ha

theorem modify_at {es : Array MapEntry} {j : Nat} {e : MapEntry} (h : es.toList[j]? = some e) (f : MapEntry → MapEntry) : (es.modify j f).toList = es.toList.set j (f e) := by
  rw [Array.toList_modify]
  apply List.ext_getElem?
  intro i
  rw [List.getElem?_modify, List.getElem?_set]
  by_cases hij : j = i
  · subst hij
    have hlt := (List.getElem?_eq_some_iff.1 h).1
    rw [h]; simp only [if_true, hlt, Option.map_some, Functor.map]
  · simp only [hij, if_false]
    cases es.toList[i]? <;> rfl
/-- The model's update: of an entry that is there, and of one that is not. -/
theorem run_update {t k v : TypeId} {q : IntKind} {g : Nat} {es : Array MapEntry} {clock : Nat} {a : Int} {uv : Value} (ht : P.underlying t = some (.map k v)) (hk : P.underlying k = some (.int q)) (hb : w.heap[g]? = some (.map es clock)) :
    (∀ j e, Instr.findNow (.int q) (.int q a) es.toList 0 = some (some (j, e.val)) → es.toList[j]? = some e → e.key = .int q a →
      (Instr.mapUpdate t (.map (some g)) (.int q a) uv).run P w = .ok () { w with heap := w.heap.setIfInBounds g (.map (es.modify j fun e => { e with key := .int q a, val := uv }) clock) }) ∧
    (Instr.findNow (.int q) (.int q a) es.toList 0 = some none →
      (Instr.mapUpdate t (.map (some g)) (.int q a) uv).run P w = .ok () { w with heap := w.heap.setIfInBounds g (.map (es.push { key := .int q a, val := uv, born := clock }) (clock + 1)) }) := by
  have hkey : MapKept.IsKey (.int q) (.int q a) := rfl
  refine ⟨fun j e hf hj he => ?_, fun hf => ?_⟩
  · have hj' : es[j]? = some e := by simpa using hj
    simp [Instr.mapUpdate, run_underlying ht, MapKept.run_getObj_map hb, MapKept.run_checkKey hk hkey, MapKept.run_findKey hk hf, MapKept.run_setObj_map _ hb, hj', he, MapKept.run_keyThatStays hkey, Result.andThen]
  · simp [Instr.mapUpdate, run_underlying ht, MapKept.run_getObj_map hb, MapKept.run_checkKey hk hkey, MapKept.run_findKey hk hf, MapKept.run_setObj_map _ hb, Result.andThen]

theorem run_updateK {t k v : TypeId} {ks : Sch} (K : KeyOk P k ks) {g : Nat} {es : Array MapEntry} {clock : Nat} {u uv : Value} {l : Lit} (ht : P.underlying t = some (.map k v)) (hl : keyOf P k u = some l) (hb : w.heap[g]? = some (.map es clock)) :
    (∀ j e, (Instr.findKey k u es.toList).run P w = .ok (some (j, e.val)) w → es.toList[j]? = some e → e.key = u →
      (Instr.mapUpdate t (.map (some g)) u uv).run P w = .ok () { w with heap := w.heap.setIfInBounds g (.map (es.modify j fun e => { e with key := u, val := uv }) clock) }) ∧
    ((Instr.findKey k u es.toList).run P w = .ok none w →
      (Instr.mapUpdate t (.map (some g)) u uv).run P w = .ok () { w with heap := w.heap.setIfInBounds g (.map (es.push { key := u, val := uv, born := clock }) (clock + 1)) }) := by
  refine ⟨fun j e hf hj he => ?_, fun hf => ?_⟩
  · have hj' : es[j]? = some e := by simpa using hj
    simp [Instr.mapUpdate, run_underlying ht, MapKept.run_getObj_map hb, K.keyed.check w _ hl, hf, MapKept.run_setObj_map _ hb, hj', he, K.keyed.stays w hl, Result.andThen]
  · simp [Instr.mapUpdate, run_underlying ht, MapKept.run_getObj_map hb, K.keyed.check w _ hl, hf, MapKept.run_setObj_map _ hb, Result.andThen]
theorem mput_apart {α β : Type} {eq : α → α → Bool} {m : List (α × β)} (h : m.Pairwise fun a b => a.1 ≠ b.1) {y : α} {v : β} (hput : (∀ x, x ∈ m → x.1 ≠ y) ∧ mput eq y v m = m ++ [(y, v)] ∨ ∃ j x, m[j]? = some x ∧ x.1 = y ∧ mput eq y v m = m.set j (y, v)) :
    (mput eq y v m).Pairwise fun a b => a.1 ≠ b.1 := by
  rcases hput with ⟨h1, h2⟩ | ⟨j, x, h1, h2, h3⟩
  · rw [h2, List.pairwise_append]
    refine ⟨h, List.pairwise_singleton _ _, fun a ha b hb => ?_⟩
    rw [List.mem_singleton] at hb; subst hb
    exact h1 a ha
  · rw [h3]
    have e1 : (m.set j (y, v)).map Prod.fst = m.map Prod.fst := by
      rw [List.map_set]
      exact set_at (by rw [List.getElem?_map, h1]; simp [h2])
    have e2 : (m.map Prod.fst).Pairwise (· ≠ ·) := List.pairwise_map.2 h
    rw [← e1] at e2
    exact List.pairwise_map.1 e2

/-- The block of a map is written. -/
theorem fr_set (h : StOk c w H ρ) {g : Nat} (ho : Own c g) (ob : Obj) : Fr c { w with heap := w.heap.setIfInBounds g ob } := by
  refine ⟨h.fr.os, h.fr.tape, h.fr.output, by simpa using h.fr.size, fun b hb hS => ?_⟩
  have hne : g ≠ b := by
    rintro rfl
    rcases ho.may with h1 | h1
    · exact hS h1
    · omega
  rw [← h.fr.block b hb hS]
  simp [hne]

/-- A slice of the call's own is put into a map. -/
theorem Tr.give (h : StOk c w H ρ) {o o2 : Nat} {k v E : TypeId} {q : IntKind} {s : Sch} {m m' : List (IT q × List s.T)} {lent : Option (IT q)} (ho : ASt.obj H o = .oth (.mps k v E (.int q) s m lent)) {xs : List s.T} (ho2 : ASt.obj H o2 = .row E s xs false)
    {g : Nat} {es es' : Array MapEntry} {clock clock' : Nat} {bl bl' : List (Nat × Nat)} (hr : ρ o = some (g, encF bl)) (hb : w.heap[g]? = some (.map es clock)) {b2 C2 : Nat} (hr2 : ρ o2 = some (b2, C2))
    (hbl : ∀ p, p ∈ bl' → p ∈ bl ∨ p.1 = b2) (hm : ∀ w' A', Keeps (Avoid c.X H ρ) w w' → (∀ b, b < w.heap.size → A' b → Avoid c.X H ρ b) → (∀ b, b ≠ g → w'.heap[b]? = w.heap[b]?) → MpsOk w' A' E (.int q) s none m' es'.toList bl' clock') :
    Tr c w H ρ { w with heap := w.heap.setIfInBounds g (.map es' clock') } ((H.set o2 .gone).set o (.oth (.mps k v E (.int q) s m' none))) (updR ρ o (some (g, encF bl'))) := by
  obtain ⟨g', _, _, bl0, r1, own, _, _, hown⟩ := mps_open h ho
  rw [hr] at r1
  have eg : g = g' := (Prod.mk.inj (Option.some.inj r1)).1
  have eb : bl0 = bl := by
    have := (Prod.mk.inj (Option.some.inj r1)).2
    exact (encF_inj this).symm
  subst eg; subst eb
  have hmut : (ASt.obj H o).mut = true := by rw [ho]; rfl
  have hmut2 : (ASt.obj H o2).mut = true := by rw [ho2]; rfl
  have hne : o ≠ o2 := by rintro rfl; rw [ho] at ho2; cases ho2
  have holt : o < H.length := obj_lt (by rw [ho]; simp)
  have holt2 : o2 < H.length := obj_lt (by rw [ho2]; simp)
  have hav : Avoid c.X H ρ g := .inr ⟨o, _, hmut, .own hr⟩
  have hoth : ∀ b, b ≠ g → ({ w with heap := w.heap.setIfInBounds g (.map es' clock') } : World).heap[b]? = w.heap[b]? := fun b hbg => by simp [Ne.symm hbg]
  have hsame : ({ w with heap := w.heap.setIfInBounds g (.map es' clock') } : World).heap[g]? = some (.map es' clock') := (MapKept.heap_set hb).1
  have hk : Keeps (Avoid c.X H ρ) w { w with heap := w.heap.setIfInBounds g (.map es' clock') } := ⟨by simp, fun b _ hA => hoth b (fun e => hA (e ▸ hav))⟩
  have ob1 : ASt.obj ((H.set o2 .gone).set o (.oth (.mps k v E (.int q) s m' none))) o = .oth (.mps k v E (.int q) s m' none) := obj_set_same (by simpa using holt) _
  have ob2 : ASt.obj ((H.set o2 .gone).set o (.oth (.mps k v E (.int q) s m' none))) o2 = .gone := by rw [obj_set_other hne, obj_set_same holt2]
  have ob3 : ∀ n, n ≠ o → n ≠ o2 → ASt.obj ((H.set o2 .gone).set o (.oth (.mps k v E (.int q) s m' none))) n = ASt.obj H n := fun n h1 h2 => by rw [obj_set_other (Ne.symm h1), obj_set_other (Ne.symm h2)]
  have hob2 := h.obj o2
  rw [ho2] at hob2
  have own2 : Own c b2 ∧ b2 < w.heap.size := by
    rcases hob2 with ⟨e1, _⟩ | ⟨g2, C3, e1, e2, cur, E', e3, _⟩
    · rw [hr2] at e1; cases e1
    · rw [hr2] at e1; cases e1; exact ⟨e2, e3.lt⟩
  have hb2 : b2 ≠ g := fun e => hne (h.inj o o2 g _ _ (AObj.mut_live hmut) (AObj.mut_live hmut2) (.own hr) (.own (e ▸ hr2)))
  refine Tr.many h (fun n => n = o ∨ n = o2) hk (fun n hn => ?_) (fr_set h own _) (fun n hn => ob3 n (fun e => hn (.inl e)) (fun e => hn (.inr e)))
    (fun n hn => updR_other (fun e => hn (.inl e)) _) (fun n hn hl b C hh => hoth b (fun e => hn (.inl (h.inj n o b C _ hl (AObj.mut_live hmut) hh (.own (e ▸ hr)))))) ?_ ?_ ?_
  · by_cases h1 : n = o
    · subst h1
      rw [ob1, updR_same]
      exact .inr ⟨by rw [ho]; rfl, by rw [ho]; rfl, by rw [ho]; rfl, rfl, by rw [hr]; rfl, fun hf => by rw [ho] at hf; cases hf⟩
    · by_cases h2 : n = o2
      · subst h2; exact .inl ob2
      · rw [ob3 n h1 h2, updR_other h1]; exact Compat.refl H ρ n hn
  · rintro n (rfl | rfl) hl b C' hh
    · left
      rw [ob1, updR_same] at hh
      rcases mps_held hh with rfl | ⟨cap, hmem⟩
      · exact ⟨n, encF bl0, .inl rfl, hmut, .own hr⟩
      · rcases hbl _ hmem with h1 | h1
        · exact ⟨n, encF bl0, .inl rfl, hmut, by rw [ho]; exact mps_hold hr h1⟩
        · exact ⟨o2, C2, .inr rfl, hmut2, .own (by rw [hr2, ← h1])⟩
    · rw [ob2] at hl; cases hl
  · rintro o1 o3 b C1 C3 (rfl | rfl) (rfl | rfl) l1 l2 _ _
    · rfl
    · rw [ob2] at l2; cases l2
    · rw [ob2] at l1; cases l1
    · rfl
  · rintro hA n (rfl | rfl)
    · rw [ob1]
      refine ⟨g, encF bl', .map es' clock', updR_same _ _, own, hsame, ⟨es', clock', _, rfl, rfl, hm _ _ hk hA hoth⟩, fun _ b cap l hl hmem => ?_⟩
      rw [encF_inj hl] at hmem
      rcases hbl _ hmem with h1 | h1
      · have := hown b cap h1; exact ⟨this.1, this.2.1, by simpa using this.2.2⟩
      · have h1 : b = b2 := h1
        subst h1; exact ⟨own2.1, hb2, by simpa using own2.2⟩
    · rw [ob2]; trivial

theorem mapUpdate_ok (hΓ : GamOk P Γ) (h : StOk c w H ρ) {t : TypeId} {m x u v : AV} {mval xv uv : Value} {U : Upd} (hm : RV w (Avoid c.X H ρ) H ρ m mval) (hx : RV w (Avoid c.X H ρ) H ρ x xv) (hu : RV w (Avoid c.X H ρ) H ρ u uv)
    (ha : aMapUpdate Γ t m x u H = some (true, v, U)) : v = .dead ∧ ∃ w' ρ', (Instr.mapUpdate t mval xv uv).run P w = .ok () w' ∧ Tr c w H ρ w' (upd H U) ρ' := by
  unfold aMapUpdate at ha
  split at ha
  · rename_i k vt ks vs ht
    obtain ⟨hty, hk, hv⟩ := mapOf_ok hΓ ht
    split at ha
    · rename_i o s y
      split at ha
      · rename_i k' v' ks' vs' l ho
        split at ha
        · rename_i hs
          obtain ⟨⟨rfl, rfl, rfl, rfl, hks, hag, hst, hua, href⟩, hz1⟩ := ite_some ha
          clear ha
          have K := keyT_ok hΓ ht hks
          subst hs
          simp only [castT] at hz1
          split at hz1
          · rename_i z V hpl
            simp only [Option.some.injEq, Prod.mk.injEq, decide_eq_true_eq] at hz1
            obtain ⟨hlen, rfl, rfl⟩ := hz1
            have hux : RX w (Avoid c.X H ρ) H ρ u true [uv] := RV.to_one hst hua hu
            obtain ⟨rfl, T1, hrep, hkeep⟩ := asPlain_ok h hux hpl
            have hoV : ASt.obj (upd H (freezes H u)) o = .oth (.mp k' v' s vs' l) := by
              rw [hkeep o (by simpa using href)]; exact ho
            have h2 := T1.ok
            obtain ⟨g, C, hr, rfl⟩ := hnd_map hm (by rw [ho]; rfl)
            have hob := h2.obj o
            rw [hoV] at hob
            obtain ⟨g', C', hb, h1, own, h3, ⟨es, clock, rfl, hmo⟩, _⟩ := hob
            rw [hr] at h1; cases h1
            have hkv := (show RepV w (Avoid c.X (upd H (freezes H u)) ρ) _ y xv from RepV.mono (fun _ hcs => RepC.keeps T1.keeps T1.avoid _ hcs) (show RepV w (Avoid c.X H ρ) _ y xv from hx))
            obtain ⟨lk, hlk⟩ := K.isKey hkv
            obtain ⟨r1, r2⟩ := run_updateK K (uv := uv) hty hlk h3
            have hvv : RepV w (Avoid c.X (upd H (freezes H u)) ρ) vs' z uv := by
              unfold RepV; rw [if_neg (by simp [hag])]; exact hrep
            have hupd : upd H (freezes H u ++ [(o, .oth (.mp k' v' s vs' (mput (beqT s) y z l)))]) = (upd H (freezes H u)).set o (.oth (.mp k' v' s vs' (mput (beqT s) y z l))) := by simp [upd, List.foldl_append]
            have fin : ∀ es' clock', MapOk w (Avoid c.X (upd H (freezes H u)) ρ) s vs' (mput (beqT s) y z l) es'.toList clock' →
                Tr c w H ρ { w with heap := w.heap.setIfInBounds g (.map es' clock') } (upd H (freezes H u ++ [(o, .oth (.mp k' v' s vs' (mput (beqT s) y z l)))])) ρ := by
              intro es' clock' hmo'
              rw [hupd]
              exact T1.trans (Tr.writeX h2 (x' := .mp k' v' s vs' (mput (beqT s) y z l)) rfl hoV rfl hr (MapKept.heap_set h3).1 (fun b hb => by simp [Ne.symm hb]) (by simp) rfl rfl rfl ⟨es', clock', rfl, hmo'⟩)
            refine ⟨rfl, ?_⟩
            rcases findK K hmo hkv with ⟨_, f2, f3, f4⟩ | ⟨j, e, x, j1, j2, j3, j4, _, j6, j7⟩
            · refine ⟨_, ρ, r2 f4, fin _ _ ?_⟩
              refine ⟨?_, mput_apart hmo.apart (.inl ⟨f2, f3 z⟩), by rw [f3, List.length_append]; have := hmo.short; simp only [List.length_cons, List.length_nil]; unfold big at hlen; unfold maxLen; omega, by rw [Array.toList_push]; exact born_push hmo.born (fun e he => (All2.mem_right' hmo.all e he).choose_spec.2.2)⟩
              rw [f3 z, Array.toList_push]
              exact All2.push ⟨hkv, hvv, Nat.lt_succ_self _⟩ (hmo.all.mono fun x e he => ⟨he.1, he.2.1, Nat.lt_succ_of_lt he.2.2⟩)
            · refine ⟨_, ρ, r1 j e j7 j1 j4, fin _ _ ?_⟩
              refine ⟨?_, mput_apart hmo.apart (.inr ⟨j, x, j2, j3, j6 z⟩), by rw [j6, List.length_set]; exact hmo.short, by rw [modify_at j1]; exact born_set hmo.born j1 rfl⟩
              rw [j6 z, modify_at j1]
              exact hmo.all.set j ⟨hkv, hvv, (hmo.all.at_ j2 j1).2.2⟩
          · cases hz1
        · cases ha
      · rename_i k' v' E ks' s' l lent ho
        split at ha
        · rename_i hs
          obtain ⟨⟨rfl, rfl, rfl, hks⟩, hz1⟩ := ite_some ha
          clear ha
          obtain ⟨q, rfl⟩ := keySch_ok hks
          subst hs
          simp only [castT] at hz1
          split at hz1
          · rename_i o2
            split at hz1
            · rename_i E2 s2 xs ho2
              split at hz1
              · rename_i hs2
                obtain ⟨rfl, hz2⟩ := ite_some hz1
                clear hz1
                subst hs2
                simp only [Option.some.injEq, Prod.mk.injEq, Bool.and_eq_true, decide_eq_true_eq] at hz2
                obtain ⟨⟨⟨hlent, hxs⟩, hlen⟩, rfl, rfl⟩ := hz2
                obtain ⟨g, C, hr, rfl⟩ := hnd_map hm (by rw [ho]; rfl)
                obtain ⟨g', es, clock, bl, h1, own, h3, hmo, hown⟩ := mps_open h ho
                rw [hr] at h1
                have eg : g = g' := (Prod.mk.inj (Option.some.inj h1)).1
                subst eg
                rw [h1] at hr
                obtain ⟨rfl, hwf⟩ := RV.int hx
                have hkt : P.underlying k' = some (.int q) := (sch_ok hΓ hk).2
                have hkeys := hmo.all.keys (f := fun x => Value.int q (toI q x.1)) (g := (·.key)) (fun x e p he => he.1.key.1)
                obtain ⟨r1, r2⟩ := run_update (uv := uv) (a := toI q y) hty hkt h3
                have hmut : (ASt.obj H o).mut = true := by rw [ho]; rfl
                have hmut2 : (ASt.obj H o2).mut = true := by rw [ho2]; rfl
                have hne : o ≠ o2 := by rintro rfl; rw [ho] at ho2; cases ho2
                have hob2 := h.obj o2
                rw [ho2] at hob2
                rcases hob2 with ⟨_, e2⟩ | ⟨b2, C2, hr2, own2, cur, E', hblk, hE, hcs, hlc, hcm, hrep⟩
                · rw [e2] at hxs; cases hxs
                have hE := hE rfl
                subst hE
                -- the slice's header
                obtain ⟨ad, cap, hval, hc1, hcle, hc2⟩ : ∃ ad cap, uv = .slice ad xs.length cap ∧ xs.length ≤ cap ∧ cap ≤ C2 ∧ ad = some ⟨b2, 0, none⟩ := by
                  have hsl := (hu : SlR H ρ o2 0 none [uv]).2
                  rw [ho2] at hsl
                  simp only [AObj.elems, Option.getD_none, hr2] at hsl
                  obtain ⟨ad, cap, e1, _, e2, _, e3, e4⟩ := hsl
                  refine ⟨ad, cap, by simpa using e1, e2, by omega, ?_⟩
                  rcases e4 with e4 | e4
                  · omega
                  · simpa using e4
                subst hc2
                have hcap := hc1
                have hblne : ∀ (i : Nat) (p : Nat × Nat), bl[i]? = some p → p.2 ≠ 0 → p.1 ≠ b2 := by
                  intro i p hp h0 e
                  have hm1 := succ_mem (List.mem_of_getElem? hp) (Nat.pos_of_ne_zero h0)
                  exact hne (h.inj o o2 p.1 _ _ (AObj.mut_live hmut) (AObj.mut_live hmut2) (by rw [ho]; exact mps_hold hr hm1) (.own (e ▸ hr2)))
                have hbg : b2 ≠ g := fun e => hne (h.inj o o2 g _ _ (AObj.mut_live hmut) (AObj.mut_live hmut2) (.own hr) (.own (e ▸ hr2)))
                have hup : upd H [(o2, AObj.gone), (o, .oth (.mps k' v' E' (.int q) s2 (mput (beqT (.int q)) y xs l) none))] = (H.set o2 .gone).set o (.oth (.mps k' v' E' (.int q) s2 (mput (beqT (.int q)) y xs l) none)) := rfl
                have newEnt : ∀ (w' : World) (A' : Nat → Prop) (clock' : Nat) (born : Nat), born < clock' → Keeps (Avoid c.X H ρ) w w' → (∀ b, b < w.heap.size → A' b → Avoid c.X H ρ b) → (∀ b, b ≠ g → w'.heap[b]? = w.heap[b]?) →
                    EntOk w' A' E' (.int q) s2 none clock' (y, xs) { key := .int q (toI q y), val := .slice (some ⟨b2, 0, none⟩) xs.length cap, born := born } (b2, cap) := by
                  intro w' A' clock' born hbn hk hA hoth
                  obtain ⟨fr, q1, q2⟩ := hblk
                  exact ⟨(⟨rfl, hwf⟩ : RepC w' A' (.int q) y [.int q (toI q y)]), hbn, .inr ⟨hxs, hcap, Nat.le_trans hcle hcm, rfl, cur, C2, ⟨fr, (hoth b2 hbg).trans q1, q2⟩, hcs, hcle, hcm, RepL.mono (fun x c => RepC.keeps hk hA s2) hrep⟩⟩
                have oldEnt : ∀ (w' : World) (A' : Nat → Prop) (clock' : Nat), clock ≤ clock' → Keeps (Avoid c.X H ρ) w w' → (∀ b, b < w.heap.size → A' b → Avoid c.X H ρ b) → (∀ b, b ≠ g → w'.heap[b]? = w.heap[b]?) →
                    ∀ x e p, p ∈ bl → x.1 ≠ y → EntOk w (Avoid c.X H ρ) E' (.int q) s2 lent clock x e p → EntOk w' A' E' (.int q) s2 none clock' x e p := by
                  intro w' A' clock' hcc hk hA hoth x e p hp hxy hR
                  refine hR.mono hk hA hcc (fun h0 => hoth _ (hown p.1 (p.2 - 1) (succ_mem hp h0)).2.1) (fun _ hl => ?_)
                  rw [hl] at hlent
                  exact absurd (beqT_int.1 hlent) hxy
                refine ⟨rfl, ?_⟩
                rw [hup, hval]
                rw [hval] at r1 r2
                rcases mfind_ok (y := y) hkeys 0 with ⟨_, f2, f3, f4⟩ | ⟨j, e, x, j1, j2, j3, j4, _, j6, j7⟩
                · refine ⟨_, _, r2 f4, Tr.give h ho ho2 hr h3 hr2 (bl' := bl ++ [(b2, cap)]) (fun p hp => ?_) (fun w' A' hk hA hoth => ?_)⟩
                  · rcases List.mem_append.1 hp with hp | hp
                    · exact .inl hp
                    · rw [List.mem_singleton] at hp; exact .inr (by rw [hp])
                  · refine ⟨?_, mput_apart hmo.apart (.inl ⟨f2, f3 xs⟩), ?_, by rw [f3, List.length_append]; have := hmo.short; simp only [List.length_cons, List.length_nil]; unfold big at hlen; unfold maxLen; omega, by rw [Array.toList_push]; exact born_push hmo.born (fun e he => (All3.mem_mid hmo.all e he).choose_spec.choose_spec.2.1)⟩
                    · rw [f3 xs, Array.toList_push]
                      refine All3.push (newEnt w' A' _ _ (Nat.lt_succ_self _) hk hA hoth) (all3_mem hmo.all fun x e p hxm hp hR => oldEnt w' A' _ (Nat.le_succ _) hk hA hoth x e p hp (f2 x hxm) hR)
                    · rw [List.pairwise_append]
                      refine ⟨hmo.two, List.pairwise_singleton _ _, fun p hp p' hp' h0 _ => ?_⟩
                      rw [List.mem_singleton] at hp'; subst hp'
                      obtain ⟨i, hi⟩ := List.mem_iff_getElem?.1 hp
                      exact hblne i p hi h0
                · rw [Nat.zero_add] at j7
                  obtain ⟨e', p0, he', hp0, hent⟩ := hmo.all.at_ j2
                  rw [j1] at he'; cases he'
                  refine ⟨_, _, r1 j e j7 j1 j4, Tr.give h ho ho2 hr h3 hr2 (bl' := bl.set j (b2, cap)) (fun p hp => ?_) (fun w' A' hk hA hoth => ?_)⟩
                  · rcases List.mem_or_eq_of_mem_set hp with hp | hp
                    · exact .inl hp
                    · exact .inr (by rw [hp])
                  · refine ⟨?_, mput_apart hmo.apart (.inr ⟨j, x, j2, j3, j6 xs⟩), two_set hmo.two j (.inr fun i p _ hi h0 => hblne i p hi h0), by rw [j6, List.length_set]; exact hmo.short, by rw [modify_at j1]; exact born_set hmo.born j1 rfl⟩
                    rw [j6 xs, modify_at j1]
                    refine All3.set j hmo.all (fun i x' e' p' hij hx' hp' hR => oldEnt w' A' _ (Nat.le_refl _) hk hA hoth x' e' p' (List.mem_of_getElem? hp') (fun ey => ?_) hR) (newEnt w' A' _ _ hent.2.1 hk hA hoth)
                    have := hmo.apart
                    rw [List.pairwise_iff_getElem] at this
                    obtain ⟨li, rfl⟩ := List.getElem?_eq_some_iff.1 hx'
                    obtain ⟨lj, rfl⟩ := List.getElem?_eq_some_iff.1 j2
                    rcases Nat.lt_or_gt_of_ne hij with hlt | hlt
                    · exact this i j li lj hlt (ey.trans j3.symm)
                    · exact this j i lj li hlt (j3.trans ey.symm)
              · cases hz1
            · cases hz1
          · cases hz1
        · cases ha
      · cases ha
    · cases ha
  · cases ha

theorem all32 {α β γ : Type} {R : α → β → γ → Prop} {R' : α → β → Prop} : ∀ {xs : List α} {ys : List β} {zs : List γ}, All3 R xs ys zs → (∀ x y z, z ∈ zs → R x y z → R' x y) → All2 R' xs ys
  | [], _, _, h, _ => h.1
  | _ :: _, _, _, ⟨y, r, z, t, e, e', h1, h2⟩, hm => by
    subst e; subst e'
    exact ⟨y, r, rfl, hm _ _ _ List.mem_cons_self h1, all32 h2 fun x y z hz => hm x y z (List.mem_cons_of_mem _ hz)⟩
/-- A map's slices are no longer its own. -/
theorem Tr.plainMap (h : StOk c w H ρ) {o : Nat} {k v E : TypeId} {ks s : Sch} {m : List (ks.T × List s.T)} (ho : ASt.obj H o = .oth (.mps k v E ks s m none)) : Tr c w H ρ w (H.set o (.oth (.mp k v ks (.slc s) m))) ρ := by
  obtain ⟨g, es, clock, bl, hr, own, hb, hmo, hown⟩ := mps_open h ho
  have holt : o < H.length := obj_lt (by rw [ho]; simp)
  have ob1 : ASt.obj (H.set o (.oth (.mp k v ks (.slc s) m))) o = .oth (.mp k v ks (.slc s) m) := obj_set_same holt _
  have ob3 : ∀ n, n ≠ o → ASt.obj (H.set o (.oth (.mp k v ks (.slc s) m))) n = ASt.obj H n := fun n h1 => obj_set_other (Ne.symm h1) _
  have hmut : (ASt.obj H o).mut = true := by rw [ho]; rfl
  refine Tr.many h (fun n => n = o) (Keeps.refl _ _) (fun n hn => ?_) h.fr (fun n hn => ob3 n hn) (fun _ _ => rfl) (fun _ _ _ _ _ _ => rfl) ?_ ?_ ?_
  · by_cases h1 : n = o
    · subst h1
      rw [ob1]
      exact .inr ⟨by rw [ho]; rfl, by rw [ho]; rfl, by rw [ho]; rfl, rfl, rfl, fun hf => by rw [ho] at hf; cases hf⟩
    · rw [ob3 n h1]; exact Compat.refl H ρ n hn
  · rintro n rfl hl b C' hh
    rw [ob1] at hh
    exact .inl ⟨n, C', rfl, hmut, .own (Hold.flat rfl hh)⟩
  · rintro o1 o2 b C1 C2 rfl rfl _ _ _ _; rfl
  · rintro hA n rfl
    rw [ob1]
    refine ⟨g, _, _, hr, own, hb, ⟨es, clock, rfl, ⟨all32 hmo.all fun x e p hp hR => ?_, hmo.apart, hmo.short, hmo.born⟩⟩, fun hf => by cases hf⟩
    obtain ⟨h1, h2, h3⟩ := hR
    rcases h3 with ⟨_, hl, _⟩ | ⟨a1, a2, a3, a4, cur, D, hblk, a5, a5b, a5c, a6⟩
    · cases hl
    refine ⟨h1.mono fun _ => RepC.keeps (Keeps.refl _ _) hA ks, ?_, h2⟩
    have hm1 := succ_mem hp (Nat.lt_of_lt_of_le a1 a2)
    have ho1 := hown p.1 _ hm1
    rw [a4]
    refine (⟨_, _, rfl, a2, a3, .inr ⟨_, _, rfl, ho1.2.2, ?_, RepL.mono (fun x c => RepC.keeps (Keeps.refl _ _) hA s) a6, by have := CellsAt.of_blk hblk 0 (x.2.length * s.cells); simpa using this⟩⟩ : RepC w _ (.slc s) x.2 [_])
    rintro (hx | ⟨n', C', hm', hr'⟩)
    · exact ho1.1.notX hx
    · by_cases hn : n' = n
      · subst hn
        rw [ob1] at hr'
        have := Hold.flat rfl hr'
        rw [hr] at this
        exact ho1.2.1 (Prod.mk.inj (Option.some.inj this)).1.symm
      · rw [ob3 n' hn] at hm' hr'
        exact hn (h.inj n' n p.1 C' _ (AObj.mut_live hm') (AObj.mut_live hmut) hr' (by rw [ho]; exact mps_hold hr hm1))
end
end Go.AI

/- One operation that is no call of a function. -/
noncomputable section
namespace Go.AI
open Go Go.RowKit

section
variable {P : Program} {Γ : Gam} {c : Ctx P} {w : World} {H H' : List AObj} {ρ : Rho} {o : Oper} {cur : List AV} {a : Act} {mv : Bool}

/-- Where the runs take place: in whatever function, at whatever depth, in a round of a range over a function or in none. -/
def Fe (rd : Option Nat) : Fence := { fn := fun _ => True, depth := none, alive := false, round := rd }
theorem callsIn_fe {P : Program} {f : FuncId} {args : Array Value} {w : World} {R : Ending → World → Prop} {rd : Option Nat} {n : Nat} (h : Calls P f args w R) : CallsIn (Fe rd) n P f args w R := by
  cases rd with
  | none => exact callsIn_wide.2 h
  | some l => exact (callsIn_wide.2 h : CallsIn Fence.wide n P f args w R)
theorem calls_fe {P : Program} {f : FuncId} {args : Array Value} {w : World} {R : Ending → World → Prop} {rd : Option Nat} {n : Nat} (h : CallsIn (Fe rd) n P f args w R) : Calls P f args w R := by
  cases rd with
  | none => exact callsIn_wide.1 h
  | some l => exact callsIn_wide.1 (h : CallsIn Fence.wide n P f args w R)
/-- An operation that is no deferred call. -/
def noDefer (o : Oper) : Prop := ∀ k, o.op ≠ .defer k
theorem semAt_eq {rd : Option Nat} {o : Oper} (h : noDefer o) (f : Operand → Value) : o.semAt rd f = execOp f o := by
  cases rd with
  | none => rfl
  | some l => exact Oper.semAt_some l f o h
/-- What an operation leads to. -/
def StepOk (P : Program) (c : Ctx P) (w : World) (H : List AObj) (ρ : Rho) (o : Oper) (a : Act) (v : AV) (U : Upd) : Prop :=
  noDefer o → ∀ (rd : Option Nat) (next : Act → World → Prop) (Q : Exit → Act → World → Prop),
    (∀ val w' ρ', RV w' (Avoid c.X (upd H U) ρ') (upd H U) ρ' v val → Tr c w H ρ w' (upd H U) ρ' → next (a.put o.dst val) w') → o.wpIn (Fe rd) 0 P a w next Q

theorem StepOk.gives {s : Sem Value} {v : AV} {U : Upd} (he : execOp a.eval o = (do pure (.value (← s)))) (h : Gives P c w H ρ s v U) : StepOk P c w H ρ o a v U := by
  intro hd rd next Q hn
  obtain ⟨val, w', ρ', hr, hv, hT⟩ := h
  refine ⟨fun _ _ => trivial, ?_⟩
  rw [semAt_eq hd, he, Sem.run_bind, hr]
  exact hn val w' ρ' hv hT
theorem StepOk.value {v : AV} {val : Value} (h : StOk c w H ρ) (he : execOp a.eval o = pure (.value val)) (hv : RV w (Avoid c.X H ρ) H ρ v val) : StepOk P c w H ρ o a v [] := by
  intro hd rd next Q hn
  refine ⟨fun _ _ => trivial, ?_⟩
  rw [semAt_eq hd, he]
  exact hn val w ρ hv (Tr.refl h)
theorem StepOk.skip' {s : Sem Unit} {w' : World} {ρ' : Rho} {U : Upd} (he : execOp a.eval o = (do s; pure .skip)) (hr : s.run P w = .ok () w') (hT : Tr c w H ρ w' (upd H U) ρ') : StepOk P c w H ρ o a .dead U := by
  intro hd rd next Q hn
  refine ⟨fun _ _ => trivial, ?_⟩
  rw [semAt_eq hd, he, Sem.run_bind, hr]
  exact hn undef w' ρ' trivial hT
theorem StepOk.skip {s : Sem Unit} {w' : World} {U : Upd} (he : execOp a.eval o = (do s; pure .skip)) (hr : s.run P w = .ok () w') (hT : Tr c w H ρ w' (upd H U) ρ) : StepOk P c w H ρ o a .dead U := by
  intro hd rd next Q hn
  refine ⟨fun _ _ => trivial, ?_⟩
  rw [semAt_eq hd, he, Sem.run_bind, hr]
  exact hn undef w' ρ trivial hT

theorem plainAns_some {r : Option (Bool × AV)} {c : Bool} {v : AV} {U : Upd} (h : plainAns r = some (c, v, U)) : r = some (c, v) ∧ U = [] := by
  unfold plainAns at h
  cases r with
  | none => cases h
  | some x => simp only [Option.map_some, Option.some.injEq, Prod.mk.injEq] at h; obtain ⟨rfl, rfl, rfl⟩ := h; exact ⟨rfl, rfl⟩
theorem plainAV_some {r : Option AV} {c : Bool} {v : AV} {U : Upd} (h : plainAV r = some (c, v, U)) : r = some v ∧ U = [] := by
  unfold plainAV at h
  cases r with
  | none => cases h
  | some x => simp only [Option.map_some, Option.some.injEq, Prod.mk.injEq] at h; obtain ⟨_, rfl, rfl⟩ := h; exact ⟨rfl, rfl⟩

theorem zero_sch (hΓ : GamOk P Γ) {t : TypeId} {s : Sch} (h : Γ.sch t = some s) : ∃ z, ∀ w, (zeroValue t).run P w = .ok z w ∧ z.cells.toList = zcells s := by
  obtain ⟨i, z, hi, hz, hzc, _⟩ := SchOk.info (sch_ok hΓ h)
  exact ⟨z, fun w => ⟨by simp [zeroValue, typeInfo, hi, hz], hzc⟩⟩

/-- A built-in function. -/
theorem builtin_ok (hΓ : GamOk P Γ) (h : StOk c w H ρ) {b : Builtin} {args : Array Operand} {ts : Array TypeId} (hfr : FrOk w (Avoid c.X H ρ) H ρ cur a.tmps)
    (hop : o.op = .call { callee := .builtin b, args := args, argTypes := ts }) {nid : Nat} {v : AV} {U : Upd} (ha : aBuiltin Γ b ts.toList (args.toList.map (opnd cur)) H nid = some (true, v, U)) : StepOk P c w H ρ o a v U := by
  have hev : ∀ (i : Nat) (x : Operand), args.toList[i]? = some x → RV w (Avoid c.X H ρ) H ρ (opnd cur x) (a.eval x) := fun i x _ => opnd_ok hfr x
  unfold aBuiltin at ha
  split at ha
  · rename_i t x hts hxs
    obtain ⟨ht, hn⟩ := ite_some ha
    match hargs : args.toList, hxs with
    | [y], hxs =>
      simp only [List.map_cons, List.map_nil, List.cons.injEq, and_true] at hxs
      subst hxs
      have e1 : args = #[y] := Array.toList_inj.1 hargs
      have e2 : ts = #[t] := Array.toList_inj.1 hts
      subst e1; subst e2
      cases hl : lenOf H (opnd cur y) with
      | none => simp [hl] at hn
      | some n =>
        rw [hl] at hn
        cases hn
        exact StepOk.gives (by simp [execOp, hop, resolve, invoke, builtin]) (len_ok hΓ h (ty := o.type) (opnd_ok hfr y) ht hl)
    | [], hxs => simp at hxs
    | _ :: _ :: _, hxs => simp at hxs
  · rename_i t t' x y hts hxs
    obtain ⟨ht, hn⟩ := ite_some ha
    match hargs : args.toList, hxs with
    | [x', y'], hxs =>
      simp only [List.map_cons, List.map_nil, List.cons.injEq, and_true] at hxs
      obtain ⟨rfl, rfl⟩ := hxs
      have e1 : args = #[x', y'] := Array.toList_inj.1 hargs
      have e2 : ts = #[t, t'] := Array.toList_inj.1 hts
      subst e1; subst e2
      exact StepOk.gives (by simp [execOp, hop, resolve, invoke, builtin]) (aAppend_ok hΓ h (t' := t') (ty := o.type) (opnd_ok hfr x') (opnd_ok hfr y') (by simpa using ht) hn)
    | [], hxs => simp at hxs
    | [_], hxs => simp at hxs
    | _ :: _ :: _ :: _, hxs => simp at hxs
  · rename_i t r x y hts hxs
    match hargs : args.toList, hxs with
    | [x', y'], hxs =>
      simp only [List.map_cons, List.map_nil, List.cons.injEq, and_true] at hxs
      obtain ⟨rfl, rfl⟩ := hxs
      have e1 : args = #[x', y'] := Array.toList_inj.1 hargs
      subst e1
      have h0 : ts[0]? = some t := by rw [← Array.getElem?_toList, hts]; rfl
      exact StepOk.gives (by simp [execOp, hop, resolve, invoke, builtin]) (copy_ok hΓ h (ty := o.type) h0 (opnd_ok hfr x') (opnd_ok hfr y') ha)
    | [], hxs => simp at hxs
    | [_], hxs => simp at hxs
    | _ :: _ :: _ :: _, hxs => simp at hxs
  · rename_i t x hts hxs
    match hargs : args.toList, hxs with
    | [x'], hxs =>
      simp only [List.map_cons, List.map_nil, List.cons.injEq, and_true] at hxs
      subst hxs
      have e1 : args = #[x'] := Array.toList_inj.1 hargs
      have e2 : ts = #[t] := Array.toList_inj.1 hts
      subst e1; subst e2
      exact StepOk.gives (by simp [execOp, hop, resolve, invoke, builtin]) (clear_ok hΓ h (ty := o.type) (opnd_ok hfr x') ha)
    | [], hxs => simp at hxs
    | _ :: _ :: _, hxs => simp at hxs
  · rename_i k y r hxs
    match hargs : args.toList, hxs with
    | x' :: r', hxs =>
      simp only [List.map_cons, List.cons.injEq] at hxs
      obtain ⟨e0, rfl⟩ := hxs
      cases hm : aMinMax true k y (r'.map (opnd cur)) with
      | none => simp [hm] at ha
      | some n =>
        simp only [hm, Option.map_some, Option.some.injEq, Prod.mk.injEq, true_and] at ha
        obtain ⟨rfl, rfl⟩ := ha
        have hx0 := opnd_ok hfr x'
        rw [e0] at hx0
        obtain ⟨e3, hw⟩ := RV.int hx0
        obtain ⟨g1, g2⟩ := minMax_ok (P := P) (w := w) (H := H) (ρ := ρ) (c := c) true k (r'.map (opnd cur)) (r'.map a.eval) y n (by simp) (fun i v u hv hu => by
          rw [List.getElem?_map] at hv hu
          cases hx : r'[i]? with
          | none => rw [hx] at hv; cases hv
          | some z => rw [hx] at hv hu; simp only [Option.map_some, Option.some.injEq] at hv hu; subst hv; subst hu; exact opnd_ok hfr z) hw hm
        have e1 : (args.map a.eval).toList = .int k (toI k y) :: r'.map a.eval := by rw [Array.toList_map, hargs, List.map_cons, e3]
        refine StepOk.gives (s := Builtin.max_ ts o.type (args.map a.eval)) (by simp [execOp, hop, resolve, invoke, builtin]) (Gives.same h ?_ (RV.mk_int g2))
        simp only [Builtin.max_, e1]
        exact g1
    | [], hxs => simp at hxs
  · rename_i k y r hxs
    match hargs : args.toList, hxs with
    | x' :: r', hxs =>
      simp only [List.map_cons, List.cons.injEq] at hxs
      obtain ⟨e0, rfl⟩ := hxs
      cases hm : aMinMax false k y (r'.map (opnd cur)) with
      | none => simp [hm] at ha
      | some n =>
        simp only [hm, Option.map_some, Option.some.injEq, Prod.mk.injEq, true_and] at ha
        obtain ⟨rfl, rfl⟩ := ha
        have hx0 := opnd_ok hfr x'
        rw [e0] at hx0
        obtain ⟨e3, hw⟩ := RV.int hx0
        obtain ⟨g1, g2⟩ := minMax_ok (P := P) (w := w) (H := H) (ρ := ρ) (c := c) false k (r'.map (opnd cur)) (r'.map a.eval) y n (by simp) (fun i v u hv hu => by
          rw [List.getElem?_map] at hv hu
          cases hx : r'[i]? with
          | none => rw [hx] at hv; cases hv
          | some z => rw [hx] at hv hu; simp only [Option.map_some, Option.some.injEq] at hv hu; subst hv; subst hu; exact opnd_ok hfr z) hw hm
        have e1 : (args.map a.eval).toList = .int k (toI k y) :: r'.map a.eval := by rw [Array.toList_map, hargs, List.map_cons, e3]
        refine StepOk.gives (s := Builtin.min_ ts o.type (args.map a.eval)) (by simp [execOp, hop, resolve, invoke, builtin]) (Gives.same h ?_ (RV.mk_int g2))
        simp only [Builtin.min_, e1]
        exact g1
    | [], hxs => simp at hxs
  · cases ha

theorem small_ok {A : Nat → Prop} {v : AV} {cs : List Value} (h : RX w A H ρ v true cs) (hs : avSmall v = true) : ∀ e, (AObj.box v).elems = some e → e.xs.length ≤ maxLen := by
  intro e he
  match v, he with
  | .dat (.arr n s) xs, he =>
    simp only [AObj.elems, Option.some.injEq] at he
    subst he
    have hl : xs.length = n := (h : RepC w A (.arr n s) xs cs).1
    simp only [avSmall, boxSmall, decide_eq_true_eq] at hs
    simp only; omega

/-- One operation. -/
theorem aop_ok (hΓ : GamOk P Γ) (h : StOk c w H ρ) (hfr : FrOk w (Avoid c.X H ρ) H ρ cur a.tmps) {nid : Nat} {v : AV} {U : Upd} (ha : aop mv Γ o.op cur H nid = some (true, v, U)) : StepOk P c w H ρ o a v U := by
  generalize hop : o.op = op at ha
  have hx := fun x => opnd_ok hfr (a := a) x
  unfold aop at ha
  split at ha
  case _ x => cases ha; exact StepOk.value h (by simp [execOp, hop]) (hx x)
  case _ x => cases ha; exact StepOk.value h (by simp [execOp, hop]) (hx x)
  case _ cd p q =>
    have hc := hx cd
    simp only at ha
    split at ha
    · rename_i e
      cases ha
      rw [e] at hc
      have hb := RV.bool hc
      exact StepOk.value h (val := a.eval p) (by simp [execOp, hop, hb, asBool]) (hx p)
    · rename_i e
      cases ha
      rw [e] at hc
      have hb := RV.bool hc
      exact StepOk.value h (val := a.eval q) (by simp [execOp, hop, hb, asBool]) (hx q)
    · cases ha
  case _ t =>
    simp only at ha
    split at ha
    · rename_i s hs
      obtain ⟨hsm, ha⟩ := ite_some ha
      cases hU : newObj? H nid (.box (bif s.isSlc then .nils else .dat s s.dflt)) with
      | none => rw [hU] at ha; cases ha
      | some U' =>
        rw [hU] at ha
        cases ha
        obtain ⟨z, hz⟩ := zero_sch hΓ hs
        have hrep : RX w (Avoid c.X H ρ) H ρ (.dat s s.dflt) true z.cells.toList := by rw [(hz w).2]; exact RepC.zero _ _ s
        have hx : RX w (Avoid c.X H ρ) H ρ (bif s.isSlc then .nils else .dat s s.dflt) true z.cells.toList ∧ (bif s.isSlc then .nils else .dat s s.dflt : AV).stands = true ∧ ∀ e, (AObj.box (bif s.isSlc then .nils else .dat s s.dflt)).elems = some e → e.xs.length ≤ maxLen := by
          have h0 := small_ok hrep hsm
          have h2 := (hz w).2
          cases s with
          | slc s' => exact ⟨by rw [h2]; rfl, rfl, fun e he => by cases he⟩
          | int _ => exact ⟨hrep, rfl, h0⟩
          | bool => exact ⟨hrep, rfl, h0⟩
          | str => exact ⟨hrep, rfl, h0⟩
          | arr _ _ => exact ⟨hrep, rfl, h0⟩
          | pair _ _ => exact ⟨hrep, rfl, h0⟩
          | unit => exact ⟨hrep, rfl, h0⟩
        obtain ⟨val, w', ρ', g1, g2, g3⟩ := box_ok (P := P) h (t := t) hx.1 hx.2.1 hx.2.2 hU
        refine StepOk.gives (s := Instr.alloc t true (.tuple #[])) (by simp [execOp, hop]) ⟨val, w', ρ', ?_, g2, g3⟩
        unfold Instr.alloc
        rw [Sem.run_bind, (hz w).1]
        exact g1
    · split at ha
      · rename_i ti ht
        split at ha
        · rename_i z L hz
          obtain ⟨hsm, ha⟩ := ite_some ha
          cases hU : newObj? H nid (.box z) with
          | none => rw [hU] at ha; cases ha
          | some U' =>
            rw [hU] at ha
            cases ha
            obtain ⟨hrx, hst, v, hv, hrun⟩ := zeroAny_ok (w := w) (H := H) (ρ := ρ) hΓ (Avoid c.X H ρ) ht hz
            rw [← hv] at hrx
            obtain ⟨val, w', ρ', g1, g2, g3⟩ := box_ok (P := P) h (t := t) hrx hst (small_ok hrx hsm) hU
            refine StepOk.gives (s := Instr.alloc t true (.tuple #[])) (by simp [execOp, hop]) ⟨val, w', ρ', ?_, g2, g3⟩
            unfold Instr.alloc
            rw [Sem.run_bind, hrun w]
            exact g1
        · cases ha
      · cases ha
  case _ t x =>
    obtain ⟨hs, ha⟩ := ite_some ha
    simp only [Bool.and_eq_true] at hs
    cases hU : newObj? H nid (.box (opnd cur x)) with
    | none => rw [hU] at ha; cases ha
    | some U' =>
      rw [hU] at ha
      cases ha
      exact StepOk.gives (s := Instr.box t (a.eval x)) (by simp [execOp, hop]) (box_ok h (t := t) (RV.cells hs.1 (hx x)) hs.1 (small_ok (RV.cells hs.1 (hx x)) hs.2) hU)
  case _ t parts =>
    split at ha
    · rename_i fs cl sc q ht
      split at ha
      · rename_i z L hz
        obtain ⟨hb, rfl⟩ := plainAV_some ha
        exact StepOk.gives (by simp [execOp, hop]) (build_struct_ok hΓ h hfr ht hz hb)
      · cases ha
    · rename_i n e cl m s q ht
      obtain ⟨hmn, ha⟩ := ite_some ha
      subst hmn
      cases hb : bldSlice s cur H parts.toList (List.replicate m s.dflt) [] with
      | none => rw [hb] at ha; cases ha
      | some r =>
        obtain ⟨ys, V⟩ := r
        rw [hb] at ha
        cases ha
        exact StepOk.gives (by simp [execOp, hop]) (build_array_ok hΓ h hfr ht rfl hb)
    · rename_i n e cl q ht
      split at ha
      · rename_i cl' sc' q' hte
        obtain ⟨hb, rfl⟩ := plainAV_some ha
        rw [Option.map_eq_some_iff] at hb
        obtain ⟨ys, hb, rfl⟩ := hb
        exact StepOk.gives (by simp [execOp, hop]) (build_fns_ok hΓ h hfr ht hte hb)
      · cases ha
    · cases ha
  case _ t n parts =>
    split at ha
    · rename_i E s hel
      obtain ⟨hsm, ha⟩ := ite_some ha
      split at ha
      · rename_i xs V hb
        split at ha
        · cases ha
        · rename_i hnv
          cases hU : newObj? H nid (.row E s xs false) with
          | none => rw [hU] at ha; cases ha
          | some U' =>
            rw [hU] at ha
            cases ha
            exact StepOk.gives (by simp [execOp, hop]) (buildSlice_ok hΓ h hfr hel hsm.1 hsm.2 hb hU (by simpa using hnv))
      · cases ha
    · cases ha
  case _ t x =>
    exact StepOk.gives (s := Instr.loadAt t (a.eval x)) (by simp [execOp, hop]) (load_ok hΓ h (hx x) ha)
  case _ t x y =>
    obtain ⟨rfl, w', hrun, hT⟩ := store_ok hΓ h (hx x) (hx y) ha
    exact StepOk.skip (s := Instr.storeAt t (a.eval x) (a.eval y)) (by simp [execOp, hop]) hrun hT
  case _ x =>
    have hv := hx x
    simp only at ha
    split at ha
    · rename_i o' p e
      obtain ⟨hl, ha⟩ := ite_some ha
      cases ha
      rw [e] at hv
      have hv2 := hv
      rcases (hv : PtrR (ASt.obj H o') (ρ o') p [a.eval x]) with ⟨hg, _⟩ | ⟨_, g, C, off, l, _, _, hcs⟩
      · rw [hg] at hl; cases hl
      · simp only [List.cons.injEq, and_true] at hcs
        exact StepOk.value h (val := a.eval x) (by simp [execOp, hop, hcs]) hv2
    · rename_i s y e
      cases ha
      rw [e] at hv
      have hv2 := hv
      obtain ⟨ad, L, hcs, _⟩ := (hv : ∃ ad L, [a.eval x] = [Value.pointer (some ad)] ∧ ad.block < w.heap.size ∧ ¬ Avoid c.X H ρ ad.block ∧ RepC w (Avoid c.X H ρ) s y L ∧ CellsAt w ad L)
      simp only [List.cons.injEq, and_true] at hcs
      exact StepOk.value h (val := a.eval x) (by simp [execOp, hop, hcs]) hv2
    · rename_i f cp e
      cases ha
      rw [e] at hv
      have hv2 := hv
      obtain ⟨vs, hcs, _⟩ := (hv : ∃ vs : List Value, [a.eval x] = [Value.func (.func f) #[] vs.toArray] ∧ RX w (Avoid c.X H ρ) H ρ cp false vs)
      simp only [List.cons.injEq, and_true] at hcs
      exact StepOk.value h (val := a.eval x) (by simp [execOp, hop, hcs]) hv2
    · cases ha
  case _ op t x y z =>
    obtain ⟨hb, rfl⟩ := plainAns_some ha
    exact StepOk.gives (s := (do eqGuard op t x y (a.eval x) (a.eval y); binOp op t (a.eval x) (a.eval y))) (by simp [execOp, hop]) (binOp_ok hΓ h (hx x) (hx y) hb)
  case _ op t x =>
    obtain ⟨hb, rfl⟩ := plainAV_some ha
    exact StepOk.gives (s := Op.unary op (a.eval x)) (by simp [execOp, hop]) (unOp_ok h (hx x) hb)
  case _ s d x =>
    exact StepOk.gives (s := convert s d (a.eval x)) (by simp [execOp, hop]) (convert_ok hΓ h (hx x) ha)
  case _ f first caps =>
    simp only at ha
    split at ha
    · rename_i hc
      cases ha
      refine StepOk.gives (by simp [execOp, hop]) (makeMv_ok h hfr hc.1 (fun x hx => ?_))
      have := List.all_eq_true.1 hc.2.2 x hx
      simpa using this
    obtain ⟨hc, ha⟩ := ite_some ha
    cases ha
    refine StepOk.gives (by simp [execOp, hop]) (makeFunc_ok h hfr hc.1 (fun x hx => ?_))
    have := List.all_eq_true.1 hc.2 x hx
    simpa using this
  case _ t l cp =>
    exact StepOk.gives (by simp [execOp, hop]) (make_ok hΓ h hfr ha)
  case _ t x lo hi mx =>
    obtain ⟨hb, rfl⟩ := plainAns_some ha
    exact StepOk.gives (by simp [execOp, hop]) (sliceX_ok hΓ h hfr hb)
  case _ t x =>
    have hv := hx x
    simp only at ha
    split at ha
    · rename_i e2 fs cl sc q e ht
      cases ha
      rw [e] at hv
      obtain ⟨cs, hcs, hr⟩ := (hv : ∃ cs : List Value, a.eval x = .agg cs.toArray ∧ RepC w (Avoid c.X H ρ) .unit _ cs)
      have hr : cs = [] := hr
      subst hr
      obtain ⟨i, d, hi, hu, _, hk⟩ := (hΓ t _ ht).info
      obtain ⟨gs, hd, _⟩ := (hk : ∃ gs : Array Field, d = .struct gs ∧ _)
      subst hd
      refine StepOk.gives (s := Instr.makeInterface t (a.eval x)) (by simp [execOp, hop]) (Gives.same h (val := .iface t (.agg #[])) ?_ (rfl : [Value.iface t (.agg #[])] = _))
      rw [hcs]
      simp [Instr.makeInterface, run_underlying hu]
    · cases ha
  case _ t x =>
    have hv := hx x
    simp only at ha
    split at ha
    · rename_i b e
      obtain ⟨hs, ha⟩ := ite_some ha
      cases hU : newObj? H nid (.oth (.sit b 0)) with
      | none => rw [hU] at ha; cases ha
      | some U' =>
        rw [hU] at ha
        cases ha
        rw [e] at hv
        obtain ⟨hval, hm⟩ := RV.str hv
        have hty : P.underlying t = some .string := by
          simp only [Gam.sch, beq_iff_eq] at hs
          cases hg : Γ.at_ t with
          | none => simp [hg] at hs
          | some ti => simp only [hg, Option.bind_some] at hs; exact ((hΓ t ti hg).sch _ hs).1.2
        obtain ⟨hlt, hfree, rfl⟩ := newObj_some hU
        have T := Tr.allocX h hlt hfree (x := .sit b 0) (C := 0) (hob := .stringIter ⟨b.toArray⟩ 0) (fun hf => by cases hf) ⟨rfl, hm⟩
        refine StepOk.gives (s := Instr.range t (a.eval x)) (by simp [execOp, hop]) ⟨.pointer (some ⟨w.heap.size, 0, none⟩), _, _, ?_, ?_, T⟩
        · rw [hval]
          simp [Instr.range, run_underlying hty]
        · refine (.inr ⟨?_, w.heap.size, 0, 0, .one, ?_, updR_same _ _, rfl⟩ : PtrR _ _ [] [_])
          · show (ASt.obj (H.set nid _) nid).live = true
            rw [obj_set_same hlt]; rfl
          · show (ASt.obj (H.set nid _) nid).lay.at_ [] = _
            rw [obj_set_same hlt]; rfl
    · cases ha
  case _ t x f =>
    obtain ⟨hb, rfl⟩ := plainAV_some ha
    exact StepOk.gives (by simp [execOp, hop]) (fieldAddr_ok hΓ h (hx x) hb)
  case _ t x f =>
    obtain ⟨hb, rfl⟩ := plainAV_some ha
    exact StepOk.gives (by simp [execOp, hop]) (field_ok hΓ h (hx x) hb)
  case _ t x i =>
    exact StepOk.gives (by simp [execOp, hop]) (indexAddr_ok hΓ h (hx x) (hx i) ha)
  case _ t x i =>
    obtain ⟨hb, rfl⟩ := plainAns_some ha
    exact StepOk.gives (by simp [execOp, hop]) (index_ok hΓ h (hx x) (hx i) hb)
  case _ x i =>
    have hv := hx x
    simp only at ha
    split at ha
    · rename_i u e
      rw [e] at hv
      split at ha
      · cases ha
      · rename_i hd
        cases ha
        exact StepOk.gives (by simp [execOp, hop]) (extract_ok h hv (fun e => hd (by rw [e])))
    · cases ha
  case _ t =>
    exact StepOk.gives (by simp [execOp, hop]) (makeMap_ok h ha)
  case _ t m x ok =>
    exact StepOk.gives (by simp [execOp, hop]) (lookup_ok hΓ h (hx m) (hx x) ha)
  case _ t m x u =>
    obtain ⟨rfl, w', ρ', hr, hT⟩ := mapUpdate_ok hΓ h (hx m) (hx x) (hx u) ha
    exact StepOk.skip' (s := Instr.mapUpdate t (a.eval m) (a.eval x) (a.eval u)) (by simp [execOp, hop]) hr hT
  case _ b args ts =>
    exact builtin_ok hΓ h hfr hop ha
  case _ => cases ha
end
end Go.AI

/- Calls by contract. -/
noncomputable section
namespace Go.AI
open Go Go.RowKit

def rowB : BV → Option AObj
  | .o E s xs => some (.row E s xs false)
  | _ => none
/-- The rows among boundary values, and the values themselves, rows from a number on. -/
def rowsB : List BV → List AObj
  | [] => []
  | .d _ _ :: bs => rowsB bs
  | .o E s xs :: bs => .row E s xs false :: rowsB bs
  | .f _ :: bs => rowsB bs
  | .p _ _ :: bs => rowsB bs
def avsB : List BV → Nat → List AV
  | [], _ => []
  | .d s x :: bs, n => .dat s x :: avsB bs n
  | .o _ _ _ :: bs, n => .row n :: avsB bs (n + 1)
  | .f g :: bs, n => .fn g .un :: avsB bs n
  | .p s x :: bs, n => .vptr s x :: avsB bs n

theorem ofArgs_eq : ∀ (bs : List BV) (H : List AObj), ofArgs bs H = (avsB bs H.length, H ++ rowsB bs)
  | [], H => by simp [ofArgs, avsB, rowsB]
  | .d s x :: bs, H => by simp [ofArgs, avsB, rowsB, ofArgs_eq bs H]
  | .o E s xs :: bs, H => by simp [ofArgs, avsB, rowsB, ofArgs_eq bs (H ++ [.row E s xs false])]
  | .f g :: bs, H => by simp [ofArgs, avsB, rowsB, ofArgs_eq bs H]
  | .p s x :: bs, H => by simp [ofArgs, avsB, rowsB, ofArgs_eq bs H]

/-- Values side by side. -/
def AllRV (w : World) (A : Nat → Prop) (H : List AObj) (ρ : Rho) : List AV → List Value → Prop
  | [], us => us = []
  | v :: vs, us => ∃ u r, us = u :: r ∧ RV w A H ρ v u ∧ AllRV w A H ρ vs r

section
variable {w w' : World} {A A' : Nat → Prop} {H H' : List AObj} {ρ ρ' : Rho}
theorem AllRV.length : ∀ {vs : List AV} {us : List Value}, AllRV w A H ρ vs us → us.length = vs.length
  | [], _, h => by simp only [AllRV] at h; subst h; rfl
  | _ :: _, _, ⟨_, _, e, _, h⟩ => by subst e; simp [AllRV.length h]
theorem AllRV.mono (hm : ∀ v u, RV w A H ρ v u → RV w' A' H' ρ' v u) : ∀ {vs : List AV} {us : List Value}, AllRV w A H ρ vs us → AllRV w' A' H' ρ' vs us
  | [], _, h => h
  | _ :: _, _, ⟨u, r, e, h1, h2⟩ => ⟨u, r, e, hm _ _ h1, AllRV.mono hm h2⟩
theorem AllRV.append : ∀ {vs ws : List AV} {us xs : List Value}, AllRV w A H ρ vs us → AllRV w A H ρ ws xs → AllRV w A H ρ (vs ++ ws) (us ++ xs)
  | [], _, _, _, h, k => by simp only [AllRV] at h; subst h; exact k
  | _ :: _, _, _, _, ⟨u, r, e, h1, h2⟩, k => ⟨u, r ++ _, by simp [e], h1, AllRV.append h2 k⟩
theorem AllRV.of_map (f : Operand → AV) (g : Operand → Value) (h : ∀ x, RV w A H ρ (f x) (g x)) : ∀ l : List Operand, AllRV w A H ρ (l.map f) (l.map g)
  | [] => rfl
  | x :: l => ⟨_, _, rfl, h x, AllRV.of_map f g h l⟩
/-- A chain of values. -/
theorem AllRV.chain : ∀ {vs : List AV} {us : List Value}, (∀ v, v ∈ vs → v.isTup = false) → AllRV w A H ρ vs us → RX w A H ρ (vs.foldr .pr .un) false us
  | [], _, _, h => h
  | _ :: _, _, ht, ⟨u, r, e, h1, h2⟩ => ⟨u, r, e, h1.rv1 (ht _ List.mem_cons_self), AllRV.chain (fun v hv => ht v (List.mem_cons_of_mem _ hv)) h2⟩
theorem AllRV.unchain : ∀ {c : AV} {vs : List AV} {us : List Value}, unchain c = some vs → RX w A H ρ c false us → AllRV w A H ρ vs us
  | .un, vs, us, h, hr => by
    simp only [AI.unchain, Option.some.injEq] at h
    subst h; exact hr
  | .pr a b, vs, us, h, hr => by
    simp only [AI.unchain] at h
    cases hb : AI.unchain b with
    | none => rw [hb] at h; cases h
    | some l =>
      rw [hb] at h; cases h
      obtain ⟨u, r, rfl, h1, h2⟩ := hr
      exact ⟨u, r, rfl, h1.rv, AllRV.unchain hb h2⟩
  | .dat _ _, _, _, h, _ => by simp [AI.unchain] at h
  | .slx _ _, _, _, h, _ => by simp [AI.unchain] at h
  | .nils, _, _, h, _ => by simp [AI.unchain] at h
  | .emp, _, _, h, _ => by simp [AI.unchain] at h
  | .row _, _, _, h, _ => by simp [AI.unchain] at h
  | .sl _ _ _, _, _, h, _ => by simp [AI.unchain] at h
  | .vptr _ _, _, _, h, _ => by simp [AI.unchain] at h
  | .ptr _ _, _, _, h, _ => by simp [AI.unchain] at h
  | .fn _ _, _, _, h, _ => by simp [AI.unchain] at h
  | .nilfn, _, _, h, _ => by simp [AI.unchain] at h
  | .hnd _ _, _, _, h, _ => by simp [AI.unchain] at h
  | .mv _ _, _, _, h, _ => by simp [AI.unchain] at h
  | .ifc _, _, _, h, _ => by simp [AI.unchain] at h
  | .nilp, _, _, h, _ => by simp [AI.unchain] at h
  | .nilm, _, _, h, _ => by simp [AI.unchain] at h
  | .fns _, _, _, h, _ => by simp [AI.unchain] at h
  | .fsel _ _, _, _, h, _ => by simp [AI.unchain] at h
  | .pk _ _, _, _, h, _ => by simp [AI.unchain] at h
  | .tup _, _, _, h, _ => by simp [AI.unchain] at h
  | .dead, _, _, h, _ => by simp [AI.unchain] at h
end

/-- What a function gives back: one value, or a tuple. -/
def IsPacked (us : List Value) (v : Value) : Prop :=
  match us with
  | [u] => v = u
  | us => v = .tuple us.toArray

theorem packed_rv {w : World} {A : Nat → Prop} {H : List AObj} {ρ : Rho} {vs : List AV} {us : List Value} {v : Value} (ht : ∀ v, v ∈ vs → v.isTup = false) (h : AllRV w A H ρ vs us) (hp : IsPacked us v) : RV w A H ρ (packed vs) v := by
  match vs, us, h, hp with
  | [], _, h, hp =>
    simp only [AllRV] at h; subst h
    exact ⟨[], hp, rfl⟩
  | [x], _, ⟨u, r, e, h1, h2⟩, hp =>
    subst e
    simp only [AllRV] at h2; subst h2
    have : v = u := hp
    subst this; exact h1
  | x :: y :: vs, _, ⟨u, r, e, h1, h2⟩, hp =>
    subst e
    obtain ⟨u2, r2, rfl, h3, h4⟩ := h2
    refine (⟨u :: u2 :: r2, hp, ?_⟩ : RV w A H ρ (.tup _) v)
    exact AllRV.chain ht ⟨u, _, rfl, h1, u2, r2, rfl, h3, h4⟩

structure FnOk (P : Program) (f : FuncId) : Prop where
  there : ∃ fn, P.funcs[f]? = some fn ∧ (fn.name == "runtime.NumGoroutine") = false ∧ fn.body.isNone = false

/-- What a function does, between boundary values. -/
def Contract (P : Program) (f : FuncId) (k : Orc) : Prop :=
  FnOk P f ∧ ∀ bs rs, k.fn bs = some (true, rs) → bs.map BV.mode = k.ps → ∀ (c : Ctx P) (ρ : Rho) (vals : List Value), StOk c c.w0 (rowsB bs) ρ → AllRV c.w0 (Avoid c.X (rowsB bs) ρ) (rowsB bs) ρ (avsB bs 0) vals →
    ∀ R : Ending → World → Prop, (∀ v us w' ρ', StOk c w' (rowsB rs) ρ' → AllRV w' (Avoid c.X (rowsB rs) ρ') (rowsB rs) ρ' (avsB rs 0) us → IsPacked us v → R (.returned v) w') → Calls P f vals.toArray c.w0 R

theorem run_callFunc {P : Program} {f : FuncId} (h : FnOk P f) (args : Array Value) (w : World) : (callFunc f args).run P w = .ok (.enter f args) w := by
  obtain ⟨fn, h1, h2, h3⟩ := h.there
  unfold callFunc
  rw [Sem.run_bind]
  have hp : (program : Sem Program).run P w = .ok P w := rfl
  rw [hp]
  simp only [Result.andThen_ok, h1, h2, h3]
  rfl

section
variable {P : Program} {c : Ctx P} {w w' : World} {H H' : List AObj} {ρ ρ' : Rho} {o : Nat}
/-- Objects frozen, or forgotten. -/
def Tame (H H1 : List AObj) : Prop := ∀ o, ASt.obj H1 o = ASt.obj H o ∨ ASt.obj H1 o = freezeObj (ASt.obj H o) ∨ (ASt.obj H1 o = .gone ∧ ASt.obj H o ≠ .free)

theorem Tame.live {H H1 : List AObj} (h : Tame H H1) {o : Nat} (hl : (ASt.obj H1 o).live = true) : (ASt.obj H o).live = true ∧ (ASt.obj H1 o = ASt.obj H o ∨ ASt.obj H1 o = freezeObj (ASt.obj H o)) := by
  rcases h o with e | e | ⟨e, _⟩
  · exact ⟨by rw [← e]; exact hl, .inl e⟩
  · exact ⟨by rw [← freeze_live, ← e]; exact hl, .inr e⟩
  · rw [e] at hl; cases hl
theorem Tame.mut {H H1 : List AObj} (h : Tame H H1) {o : Nat} (hm : (ASt.obj H1 o).mut = true) : (ASt.obj H o).mut = true := by
  rcases h o with e | e | ⟨e, _⟩
  · rw [← e]; exact hm
  · exact freeze_mut (by rw [← e]; exact hm)
  · rw [e] at hm; cases hm

theorem Tame.hold {H H1 : List AObj} (h : Tame H H1) {o : Nat} {r : Option (Nat × Nat)} {b C : Nat} (hm : (ASt.obj H1 o).live = true) (hr : Hold (ASt.obj H1 o) r b C) : Hold (ASt.obj H o) r b C := by
  rcases (h.live hm).2 with e | e
  · rwa [e] at hr
  · rw [e] at hr; exact hr.same (freeze_fam _)
theorem Tame.avoid {H H1 : List AObj} (h : Tame H H1) {b : Nat} (ha : Avoid c.X H1 ρ b) : Avoid c.X H ρ b := by
  rcases ha with hx | ⟨o, C, hm, hr⟩
  · exact .inl hx
  · exact .inr ⟨o, C, h.mut hm, h.hold (AObj.mut_live hm) hr⟩

theorem Tame.compat {H H1 : List AObj} (hst : StOk c w H ρ) (h : Tame H H1) : Compat H ρ H1 ρ := fun o ho => by
  rcases h o with e | e | ⟨e, _⟩
  · rw [e]; exact Compat.refl H ρ o ho
  · rw [e]
    exact frozen_same hst o ho
  · exact .inl e

theorem Tr.tame (h : StOk c w H ρ) {H1 : List AObj} (ht : Tame H H1) : Tr c w H ρ w H1 ρ := by
  refine ⟨Keeps.refl _ _, fun b _ ha => ht.avoid ha, (ht.compat h), ⟨fun o => ?_, fun o o' g C C' h1 h2 h3 h4 => h.inj o o' g C C' (ht.live h1).1 (ht.live h2).1 (ht.hold h1 h3) (ht.hold h2 h4), h.fr, h.old⟩⟩
  have hob := (h.obj o).mono (Keeps.refl _ w) (fun b _ ha => ht.avoid (c := c) (ρ := ρ) ha) (ht.compat h) rfl (fun _ _ _ _ => rfl)
  rcases ht o with e | e | ⟨e, _⟩
  · rw [e]; exact hob
  · rw [e]; exact frozen_ok hob
  · rw [e]; trivial

theorem upd_len : ∀ (U : Upd) (H : List AObj), (upd H U).length = H.length
  | [], _ => rfl
  | _ :: U, H => by
    show (upd (H.set _ _) U).length = _
    rw [upd_len U]; simp
theorem upd_append (H : List AObj) (U V : Upd) : upd H (U ++ V) = upd (upd H U) V := by simp [upd, List.foldl_append]
theorem upd_other : ∀ (U : Upd) (H : List AObj) {o : Nat}, (∀ x, x ∈ U → x.1 ≠ o) → ASt.obj (upd H U) o = ASt.obj H o
  | [], _, _, _ => rfl
  | x :: U, H, o, h => by
    show ASt.obj (upd (H.set x.1 x.2) U) o = _
    rw [upd_other U _ (fun y hy => h y (List.mem_cons_of_mem _ hy)), obj_set_other (h x List.mem_cons_self)]
theorem upd_hit : ∀ (U : Upd) (H : List AObj) {o : Nat} {ob : AObj}, o < H.length → (∀ x, x ∈ U → x.1 = o → x.2 = ob) → (∃ x, x ∈ U ∧ x.1 = o) → ASt.obj (upd H U) o = ob
  | [], _, _, _, _, _, h => by obtain ⟨_, h, _⟩ := h; cases h
  | x :: U, H, o, ob, hlt, h1, h2 => by
    show ASt.obj (upd (H.set x.1 x.2) U) o = _
    by_cases hex : ∃ y, y ∈ U ∧ y.1 = o
    · exact upd_hit U _ (by simpa using hlt) (fun y hy => h1 y (List.mem_cons_of_mem _ hy)) hex
    · rw [upd_other U _ (fun y hy e => hex ⟨y, hy, e⟩)]
      obtain ⟨y, hy, hyo⟩ := h2
      rcases List.mem_cons.1 hy with rfl | hy
      · subst hyo
        rw [obj_set_same hlt]
        exact h1 y List.mem_cons_self rfl
      · exact absurd ⟨y, hy, hyo⟩ hex
end
end Go.AI

/- What is handed over at a call, and at its end. -/
noncomputable section
namespace Go.AI
open Go Go.RowKit

/-- The rows that are handed over; the objects behind plain data. -/
def handL : List PM → List AV → List (Option Nat)
  | .o _ _ :: ms, .row o :: vs => some o :: handL ms vs
  | .o _ _ :: ms, _ :: vs => none :: handL ms vs
  | .d _ :: ms, _ :: vs => handL ms vs
  | .f :: ms, _ :: vs => handL ms vs
  | .p _ :: ms, _ :: vs => handL ms vs
  | _, _ => []
def datRefs : List PM → List AV → List Nat
  | .d _ :: ms, v :: vs => v.refs ++ datRefs ms vs
  | .o _ _ :: ms, _ :: vs => datRefs ms vs
  | .f :: ms, _ :: vs => datRefs ms vs
  | .p _ :: ms, v :: vs => v.refs ++ datRefs ms vs
  | _, _ => []
def handN (ms : List PM) (vs : List AV) : List Nat := (handL ms vs).filterMap id

theorem count_le (o : Nat) : ∀ (ms : List PM) (vs : List AV), (handN ms vs).count o + (datRefs ms vs).count o ≤ (vs.flatMap AV.refs).count o
  | [], [] => by simp [handN, handL, datRefs]
  | [], _ :: _ => by simp [handN, handL, datRefs]
  | .o _ _ :: _, [] => by simp [handN, handL, datRefs]
  | .d _ :: _, [] => by simp [handN, handL, datRefs]
  | .f :: _, [] => by simp [handN, handL, datRefs]
  | .p _ :: _, [] => by simp [handN, handL, datRefs]
  | .p s :: ms, v :: vs => by
    have ih := count_le o ms vs
    simp only [handN] at ih
    simp only [handN, handL, datRefs, List.flatMap_cons, List.count_append]; omega
  | .d s :: ms, v :: vs => by
    have ih := count_le o ms vs
    simp only [handN] at ih
    simp only [handN, handL, datRefs, List.flatMap_cons, List.count_append]; omega
  | .f :: ms, v :: vs => by
    have ih := count_le o ms vs
    simp only [handN] at ih
    simp only [handN, handL, datRefs, List.flatMap_cons, List.count_append]; omega
  | .o E s :: ms, v :: vs => by
    have ih := count_le o ms vs
    simp only [handN] at ih
    cases v <;> simp only [handN, handL, datRefs, List.flatMap_cons, List.count_append, AV.refs, List.filterMap_cons, id] <;> (try simp only [List.count_cons, List.count_nil]) <;> omega

structure ArgIs (H : List AObj) (fresh : Bool) (ms : List PM) (vs : List AV) (bs : List BV) (U : Upd) : Prop where
  modes : bs.map BV.mode = ms
  len : (rowsB bs).length = (handL ms vs).length
  row_ : ∀ (j o : Nat), (handL ms vs)[j]? = some (some o) → ∃ E s xs, ASt.obj H o = AObj.row E s xs false ∧ (rowsB bs)[j]? = some (AObj.row E s xs false)
  nil_ : ∀ (j : Nat), (handL ms vs)[j]? = some none → ∃ E s, (rowsB bs)[j]? = some (AObj.row E s [] false)
  gone_ : ∀ (o : Nat), o ∈ handN ms vs → (o, AObj.gone) ∈ U
  upd_ : ∀ (x : Nat × AObj), x ∈ U → (x.2 = .gone ∧ x.1 ∈ handN ms vs) ∨ (fresh = false ∧ x.2 = freezeObj (ASt.obj H x.1) ∧ x.1 ∈ datRefs ms vs)
  frz : fresh = false → ∀ (o : Nat), o ∈ datRefs ms vs → (o, freezeObj (ASt.obj H o)) ∈ U ∧ (freezeObj (ASt.obj H o)).mut = false

theorem toArgs_is {H : List AObj} {fresh : Bool} : ∀ (ms : List PM) (vs : List AV) {bs : List BV} {U : Upd}, toArgs fresh H ms vs = some (bs, U) → ArgIs H fresh ms vs bs U
  | [], [], bs, U, h => by
    simp only [toArgs, Option.some.injEq, Prod.mk.injEq] at h
    obtain ⟨rfl, rfl⟩ := h
    exact ⟨rfl, rfl, fun j o hj => by simp [handL] at hj, fun j hj => by simp [handL] at hj, fun o ho => by simp [handN, handL] at ho, fun x hx => (by cases hx), fun _ o ho => by simp [datRefs] at ho⟩
  | [], _ :: _, bs, U, h => by simp [toArgs] at h
  | _ :: _, [], bs, U, h => by simp [toArgs] at h
  | m :: ms, v :: vs, bs, U, h => by
    simp only [toArgs] at h
    split at h
    · rename_i b U1 bs' V h1 h2
      simp only [Option.some.injEq, Prod.mk.injEq] at h
      obtain ⟨rfl, rfl⟩ := h
      have ih := toArgs_is ms vs h2
      cases m with
      | d s =>
        rw [toArg] at h1
        cases hd : toDat fresh H s v with
        | none => rw [hd] at h1; cases h1
        | some x =>
          rw [hd] at h1; cases h1
          refine ⟨by simp [BV.mode, ih.modes], ih.len, ih.row_, ih.nil_, fun o ho => List.mem_append_right _ (ih.gone_ o ho), fun x hx => ?_, fun hf o ho => ?_⟩
          · rcases List.mem_append.1 hx with hx | hx
            · cases fresh with
              | true => cases hx
              | false =>
                obtain ⟨o, ho, rfl⟩ := List.mem_map.1 hx
                exact .inr ⟨rfl, rfl, List.mem_append_left _ ho⟩
            · rcases ih.upd_ x hx with h | ⟨a1, a2, a3⟩
              · exact .inl h
              · exact .inr ⟨a1, a2, List.mem_append_right _ a3⟩
          · subst hf
            rcases List.mem_append.1 ho with ho | ho
            · exact ⟨List.mem_append_left _ (List.mem_map.2 ⟨o, ho, rfl⟩), toDat_rows v s hd o ho⟩
            · exact ⟨List.mem_append_right _ (ih.frz rfl o ho).1, (ih.frz rfl o ho).2⟩
      | o E s =>
       cases v with
       | nils =>
        rw [toArg] at h1
        cases h1
        refine ⟨by simp [BV.mode, ih.modes], by simp [rowsB, handL, ih.len], fun j o hj => ?_, fun j hj => ?_, fun o ho => ih.gone_ o ho, fun x hx => ih.upd_ x hx, fun hf o ho => ih.frz hf o ho⟩
        · cases j with
          | zero => simp [handL] at hj
          | succ j => simpa [rowsB] using ih.row_ j o (by simpa [handL] using hj)
        · cases j with
          | zero => exact ⟨E, s, rfl⟩
          | succ j => simpa [rowsB] using ih.nil_ j (by simpa [handL] using hj)
       | row o =>
        rw [toArg] at h1
        split at h1
        · rename_i E' s' xs hob
          split at h1
          · rename_i hs
            obtain ⟨rfl, rfl⟩ := hs
            cases h1
            refine ⟨by simp [BV.mode, ih.modes], by simp [rowsB, handL, ih.len], fun j o' hj => ?_, fun j hj => ?_, fun o' ho => ?_, fun x hx => ?_, fun hf o' ho => ⟨List.mem_append_right _ (ih.frz hf o' ho).1, (ih.frz hf o' ho).2⟩⟩
            · cases j with
              | zero =>
                simp only [handL, List.getElem?_cons_zero, Option.some.injEq] at hj
                subst hj
                exact ⟨E', s', xs, hob, rfl⟩
              | succ j => simpa [rowsB] using ih.row_ j o' (by simpa [handL] using hj)
            · cases j with
              | zero => simp [handL] at hj
              | succ j => simpa [rowsB] using ih.nil_ j (by simpa [handL] using hj)
            · simp only [handN, handL, List.filterMap_cons, id, List.mem_cons] at ho
              rcases ho with rfl | ho
              · exact List.mem_append_left _ (by simp)
              · exact List.mem_append_right _ (ih.gone_ o' ho)
            · rcases List.mem_append.1 hx with hx | hx
              · simp only [List.mem_singleton] at hx
                subst hx
                exact .inl ⟨rfl, by simp [handN, handL]⟩
              · rcases ih.upd_ x hx with ⟨a1, a2⟩ | h
                · refine .inl ⟨a1, ?_⟩
                  simp only [handN, handL, List.filterMap_cons, id, List.mem_cons]
                  exact .inr a2
                · exact .inr h
          · cases h1
        · cases h1
       | _ => simp [toArg] at h1
      | f =>
       cases v with
       | fn g cp =>
        cases cp with
        | un =>
          rw [toArg] at h1
          cases h1
          exact ⟨by simp [BV.mode, ih.modes], ih.len, ih.row_, ih.nil_, ih.gone_, ih.upd_, ih.frz⟩
        | _ => simp [toArg] at h1
       | _ => simp [toArg] at h1
      | p s =>
       cases v with
       | vptr t x =>
        rw [toArg] at h1
        split at h1
        · rename_i e
          subst e; cases h1
          exact ⟨by simp [BV.mode, ih.modes], ih.len, ih.row_, ih.nil_, ih.gone_, ih.upd_, ih.frz⟩
        · cases h1
       | ptr o p =>
        cases p with
        | nil =>
          rw [toArg] at h1
          cases fresh with
          | false => cases h1
          | true =>
            simp only [if_true] at h1
            split at h1
            · rename_i t x hob
              split at h1
              · rename_i e
                subst e; cases h1
                exact ⟨by simp [BV.mode, ih.modes], ih.len, ih.row_, ih.nil_, ih.gone_, fun x hx => (ih.upd_ x hx).imp id (fun h => ⟨h.1, h.2.1, List.mem_append_right _ h.2.2⟩), fun hf => (by cases hf)⟩
              · cases h1
            · cases h1
        | cons _ _ => simp [toArg] at h1
       | _ => simp [toArg] at h1
    · cases h

/-- What is handed over is handed over once, and lies behind nothing else. -/
theorem once_ok {H : List AObj} {fresh : Bool} {ms : List PM} {vs : List AV} {bs : List BV} {U : Upd} (hA : ArgIs H fresh ms vs bs U) (ho : onceOnly U vs = true) {o : Nat} (hm : o ∈ handN ms vs) : (handN ms vs).count o = 1 ∧ o ∉ datRefs ms vs := by
  have hg : o ∈ goneOf U := by
    unfold goneOf
    rw [List.mem_filterMap]
    exact ⟨(o, .gone), hA.gone_ o hm, rfl⟩
  have hc := List.all_eq_true.1 ho o hg
  simp only [beq_iff_eq] at hc
  have := count_le o ms vs
  have h1 : 0 < (handN ms vs).count o := List.count_pos_iff.2 hm
  refine ⟨by omega, fun hd => ?_⟩
  have h2 : 0 < (datRefs ms vs).count o := List.count_pos_iff.2 hd
  omega

theorem mem_handN {ms : List PM} {vs : List AV} {j o : Nat} (h : (handL ms vs)[j]? = some (some o)) : o ∈ handN ms vs := by
  unfold handN
  rw [List.mem_filterMap]
  exact ⟨some o, List.mem_of_getElem? h, rfl⟩

theorem count_two {l : List (Option Nat)} {o : Nat} : ∀ {i j : Nat}, l[i]? = some (some o) → l[j]? = some (some o) → i ≠ j → 2 ≤ (l.filterMap id).count o := by
  induction l with
  | nil => intro i j h; simp at h
  | cons x l ih =>
    intro i j hi hj hne
    have one : ∀ {k : Nat}, l[k]? = some (some o) → 1 ≤ (l.filterMap id).count o := fun {k} hk => List.count_pos_iff.2 (List.mem_filterMap.2 ⟨some o, List.mem_of_getElem? hk, rfl⟩)
    cases i with
    | zero =>
      cases j with
      | zero => exact absurd rfl hne
      | succ j =>
        simp only [List.getElem?_cons_zero, Option.some.injEq] at hi
        subst hi
        simp only [List.getElem?_cons_succ] at hj
        have := one hj
        simp only [List.filterMap_cons, id, List.count_cons_self]; omega
    | succ i =>
      cases j with
      | zero =>
        simp only [List.getElem?_cons_zero, Option.some.injEq] at hj
        subst hj
        simp only [List.getElem?_cons_succ] at hi
        have := one hi
        simp only [List.filterMap_cons, id, List.count_cons_self]; omega
      | succ j =>
        simp only [List.getElem?_cons_succ] at hi hj
        have := ih hi hj (by omega)
        cases x with
        | none => simpa using this
        | some y =>
          simp only [List.filterMap_cons, id, List.count_cons]; omega

theorem once_inj {H : List AObj} {fresh : Bool} {ms : List PM} {vs : List AV} {bs : List BV} {U : Upd} (hA : ArgIs H fresh ms vs bs U) (ho : onceOnly U vs = true) {i j o : Nat} (hi : (handL ms vs)[i]? = some (some o)) (hj : (handL ms vs)[j]? = some (some o)) : i = j := by
  rcases Nat.decEq i j with h | h
  · have h1 := count_two hi hj h
    have h2 := (once_ok hA ho (mem_handN hi)).1
    unfold handN at h2; omega
  · exact h

section
variable {P : Program} {c c2 : Ctx P} {w w' : World} {H H' : List AObj} {ρ ρ' : Rho} {o : Nat}

theorem hand_tame {fresh : Bool} {ms : List PM} {vs : List AV} {bs : List BV} {U : Upd} (hA : ArgIs H fresh ms vs bs U) (ho : onceOnly U vs = true) :
    Tame H (upd H U) ∧ (∀ o, o ∈ handN ms vs → ASt.obj (upd H U) o = .gone) ∧ (fresh = false → ∀ o, o ∈ datRefs ms vs → ASt.obj (upd H U) o = freezeObj (ASt.obj H o)) := by
  have hgone : ∀ o, o ∈ handN ms vs → ASt.obj (upd H U) o = .gone := by
    intro o hm
    have hlt : o < H.length := by
      obtain ⟨j, hj⟩ := List.mem_iff_getElem?.1 (List.mem_filterMap.1 hm).choose_spec.1
      have e := (List.mem_filterMap.1 hm).choose_spec.2
      simp only [id] at e
      rw [e] at hj
      obtain ⟨E, s, xs, h1, _⟩ := hA.row_ j o hj
      exact obj_lt (by rw [h1]; simp)
    refine upd_hit U H hlt (fun x hx hxo => ?_) ⟨_, hA.gone_ o hm, rfl⟩
    rcases hA.upd_ x hx with ⟨h1, _⟩ | ⟨_, _, h3⟩
    · exact h1
    · rw [hxo] at h3
      exact absurd h3 (once_ok hA ho hm).2
  have hfrz : fresh = false → ∀ (o : Nat), o ∈ datRefs ms vs → ASt.obj (upd H U) o = freezeObj (ASt.obj H o) := by
    intro hf o hd
    rcases Nat.lt_or_ge o H.length with hlt | hge
    · refine upd_hit U H hlt (fun x hx hxo => ?_) ⟨_, (hA.frz hf o hd).1, rfl⟩
      rcases hA.upd_ x hx with ⟨_, h2⟩ | ⟨_, h2, _⟩
      · rw [hxo] at h2
        exact absurd hd (once_ok hA ho h2).2
      · rw [← hxo]; exact h2
    · rw [obj_of_ge (by rw [upd_len]; exact hge), obj_of_ge hge]; rfl
  refine ⟨fun o => ?_, hgone, hfrz⟩
  by_cases hm : o ∈ handN ms vs
  · refine .inr (.inr ⟨hgone o hm, ?_⟩)
    obtain ⟨j, hj⟩ := List.mem_iff_getElem?.1 (List.mem_filterMap.1 hm).choose_spec.1
    have e := (List.mem_filterMap.1 hm).choose_spec.2
    simp only [id] at e
    rw [e] at hj
    obtain ⟨E, s, xs, h1, _⟩ := hA.row_ j o hj
    rw [h1]; simp
  · by_cases hd : ∃ x, x ∈ U ∧ x.1 = o
    · obtain ⟨x, hx, rfl⟩ := hd
      rcases hA.upd_ x hx with ⟨_, h2⟩ | ⟨h1, _, h3⟩
      · exact absurd h2 hm
      · exact .inr (.inl (hfrz h1 _ h3))
    · exact .inl (upd_other U H fun x hx e => hd ⟨x, hx, e⟩)

theorem SlR.move {o o' off : Nat} {len : Option Nat} {cs : List Value} (h1 : ASt.obj H' o' = ASt.obj H o) (h2 : ρ' o' = ρ o) (h : SlR H ρ o off len cs) : SlR H' ρ' o' off len cs := by
  unfold SlR at h ⊢
  rw [h1, h2]; exact h

theorem toDat_stands : ∀ (v : AV) (s : Sch) {b : Bool} {x : s.T}, toDat b H s v = some x → v.stands = true ∧ v.agg = s.agg := by
  intro v
  induction v with
  | dat t y =>
    intro s b x h
    rw [toDat] at h
    split at h
    · rename_i e; subst e; exact ⟨rfl, rfl⟩
    · cases h
  | pr u v ihu ihv =>
    intro s b x h
    cases s <;> simp only [toDat, reduceCtorEq] at h
    split at h
    · rename_i y z h1 h2
      exact ⟨by simp [AV.stands, (ihu _ h1).1, (ihv _ h2).1], rfl⟩
    · cases h
  | slx t ys => intro s b x h; cases s <;> simp_all [toDat, AV.stands, AV.agg, Sch.agg]
  | nils => intro s b x h; cases s <;> simp_all [toDat, AV.stands, AV.agg, Sch.agg]
  | emp => intro s b x h; cases s <;> simp_all [toDat, AV.stands, AV.agg, Sch.agg]
  | row o => intro s b x h; cases s <;> simp_all [toDat, AV.stands, AV.agg, Sch.agg]
  | sl o i n => intro s b x h; cases s <;> simp_all [toDat, AV.stands, AV.agg, Sch.agg]
  | un => intro s b x h; cases s <;> simp_all [toDat, AV.stands, AV.agg, Sch.agg]
  | vptr t y => intro s b x h; cases s <;> simp [toDat] at h
  | ptr o p => intro s b x h; cases s <;> simp [toDat] at h
  | fn f cp ih => intro s b x h; cases s <;> simp [toDat] at h
  | nilfn => intro s b x h; cases s <;> simp [toDat] at h
  | hnd _ _ => intro s b x h; cases s <;> simp [toDat] at h
  | mv _ _ _ => intro s b x h; cases s <;> simp [toDat] at h
  | ifc _ => intro s b x h; cases s <;> simp [toDat] at h
  | nilp => intro s b x h; cases s <;> simp [toDat] at h
  | nilm => intro s b x h; cases s <;> simp [toDat] at h
  | fns _ => intro s b x h; cases s <;> simp [toDat] at h
  | fsel _ _ => intro s b x h; cases s <;> simp [toDat] at h
  | pk _ _ => intro s b x h; cases s <;> simp [toDat] at h
  | tup a ih => intro s b x h; cases s <;> simp [toDat] at h
  | dead => intro s b x h; cases s <;> simp [toDat] at h

/-- A value as plain data. -/
theorem toDat_rv (h : StOk c w H ρ) {b : Bool} {v : AV} {s : Sch} {x : s.T} {val : Value} {A' : Nat → Prop} (hv : RV w (Avoid c.X H ρ) H ρ v val) (hx : toDat b H s v = some x) (hL : Lets c H ρ A' v.refs) : RV w A' H' ρ' (.dat s x) val := by
  obtain ⟨hs, hag⟩ := toDat_stands v s hx
  have hr := toDat_ok h b v s (RV.cells hs hv) hx hL
  cases ha : s.agg with
  | true =>
    have hva : v.agg = true := hag.trans ha
    have : ∃ cs : List Value, val = .agg cs.toArray := by
      unfold RV at hv
      split at hv
      · simp [AV.stands] at hs
      · unfold RV1 at hv
        split at hv
        · simp [AV.stands] at hs
        · exact hv.elim
        · rw [if_pos hva] at hv
          obtain ⟨cs, e, _⟩ := hv; exact ⟨cs, e⟩
    obtain ⟨cs, rfl⟩ := this
    have e : (Value.agg cs.toArray).cells.toList = cs := by simp [Value.cells]
    rw [e] at hr
    exact RV.agg_ ha hr
  | false =>
    have hva : v.agg = false := hag.trans ha
    have ho := RV.to_one hs hva hv
    have hone := RX.oneCell v ho val (by simp)
    have e : val.cells = #[val] := by cases val <;> first | rfl | simp [Value.oneCell'] at hone
    rw [e] at hr
    exact RV.one ha hr

/-- A pointer to plain data, handed over. -/
theorem RX.vptr_let {A A' : Nat → Prop} {s : Sch} {x : s.T} {u : Value} (hA : ∀ b, A' b → A b) (h : RV w A H ρ (.vptr s x) u) : RV w A' H' ρ' (.vptr s x) u := by
  obtain ⟨ad, L, e, hb, hn, hr, hcl⟩ := (h : ∃ ad L, [u] = [Value.pointer (some ad)] ∧ ad.block < w.heap.size ∧ ¬ A ad.block ∧ RepC w A s x L ∧ CellsAt w ad L)
  exact (⟨ad, L, e, hb, fun h => hn (hA _ h), RepC.keeps (Keeps.refl _ _) (fun b _ hb => hA b hb) s hr, hcl⟩ : ∃ ad L, [u] = [Value.pointer (some ad)] ∧ ad.block < w.heap.size ∧ ¬ A' ad.block ∧ RepC w A' s x L ∧ CellsAt w ad L)
/-- A pointer to a variable, lent. -/
theorem ptr_lent (h : StOk c w H ρ) {A' : Nat → Prop} {s : Sch} {x : s.T} {u : Value} (hob : ASt.obj H o = .box (.dat s x)) (hu : RV w (Avoid c.X H ρ) H ρ (.ptr o []) u) (hL : Lets c H ρ A' [o]) : RV w A' H' ρ' (.vptr s x) u := by
  rcases (hu : PtrR (ASt.obj H o) (ρ o) [] [u]) with ⟨hg, _⟩ | ⟨hl, g, C, off, l, hat, hr, hcs⟩
  · rw [hob] at hg; cases hg
  · simp only [Lay.at_, Option.some.injEq, Prod.mk.injEq] at hat
    obtain ⟨rfl, _⟩ := hat
    have hb := h.obj o
    rw [hob] at hb
    obtain ⟨g', C', E, cur, h1, h2, h3, h4, h5, h6⟩ := hb
    rw [hr] at h1; cases h1
    refine (⟨⟨g, 0, none⟩, cur.toList, hcs, h3.lt, hL.off o List.mem_cons_self g C hl hr, RepC.keeps (Keeps.refl _ _) (fun b _ hb => hL.sub b hb) s h4, fun j v hj => ?_⟩ : ∃ ad L, [u] = [Value.pointer (some ad)] ∧ ad.block < w.heap.size ∧ ¬ A' ad.block ∧ RepC w A' s x L ∧ CellsAt w ad L)
    rw [show (Addr.add ⟨g, 0, none⟩ j) = ⟨g, j, none⟩ from by unfold Addr.add; split <;> simp_all, h3.cell]
    simpa using hj

theorem args_rv (h : StOk c w H ρ) {fresh : Bool} {A' : Nat → Prop} : ∀ (ms : List PM) (vs : List AV) {bs : List BV} {U : Upd} {us : List Value} (n : Nat), toArgs fresh H ms vs = some (bs, U) → AllRV w (Avoid c.X H ρ) H ρ vs us →
    (∀ j o, (handL ms vs)[j]? = some (some o) → ASt.obj H' (n + j) = ASt.obj H o ∧ ρ' (n + j) = ρ o) → (∀ j, (handL ms vs)[j]? = some none → ρ' (n + j) = none) → (∀ j r, (rowsB bs)[j]? = some r → ASt.obj H' (n + j) = r) →
    Lets c H ρ A' (datRefs ms vs) → AllRV w A' H' ρ' (avsB bs n) us
  | [], [], bs, U, us, n, ha, hv, _, _, _, _ => by
    simp only [toArgs, Option.some.injEq, Prod.mk.injEq] at ha
    obtain ⟨rfl, rfl⟩ := ha
    exact hv
  | [], _ :: _, bs, U, us, n, ha, _, _, _, _, _ => by simp [toArgs] at ha
  | _ :: _, [], bs, U, us, n, ha, _, _, _, _, _ => by simp [toArgs] at ha
  | m :: ms, v :: vs, bs, U, us, n, ha, hv, h1, h2, h3, hL => by
    simp only [toArgs] at ha
    obtain ⟨u, r, rfl, hu, hr⟩ := hv
    split at ha
    · rename_i b U1 bs' V e1 e2
      simp only [Option.some.injEq, Prod.mk.injEq] at ha
      obtain ⟨rfl, rfl⟩ := ha
      cases m with
      | d s =>
        rw [toArg] at e1
        cases hd : toDat fresh H s v with
        | none => rw [hd] at e1; cases e1
        | some x =>
          rw [hd] at e1; cases e1
          exact ⟨u, r, rfl, toDat_rv h hu hd (hL.mono fun o ho => List.mem_append_left _ ho), args_rv h ms vs n e2 hr h1 h2 h3 (hL.mono fun o ho => List.mem_append_right _ ho)⟩
      | o E s =>
       cases v with
       | nils =>
        rw [toArg] at e1
        cases e1
        refine ⟨u, r, rfl, ?_, args_rv h ms vs (n + 1) e2 hr (fun j o hj => ?_) (fun j hj => ?_) (fun j x hj => ?_) hL⟩
        · have hval : u = .slice none 0 0 := by
            have : [u] = [Value.slice none 0 0] := hu
            simpa using this
          subst hval
          exact rv_row_none (h3 0 _ rfl) (h2 0 rfl) none
        · have := h1 (j + 1) o (by simpa [handL] using hj)
          rwa [show n + (j + 1) = n + 1 + j by omega] at this
        · have := h2 (j + 1) (by simpa [handL] using hj)
          rwa [show n + (j + 1) = n + 1 + j by omega] at this
        · have := h3 (j + 1) x (by simpa [rowsB] using hj)
          rwa [show n + (j + 1) = n + 1 + j by omega] at this
       | row o =>
        rw [toArg] at e1
        split at e1
        · rename_i E' s' xs hob
          split at e1
          · rename_i hs
            obtain ⟨rfl, rfl⟩ := hs
            cases e1
            refine ⟨u, r, rfl, ?_, args_rv h ms vs (n + 1) e2 hr (fun j o hj => ?_) (fun j hj => ?_) (fun j x hj => ?_) hL⟩
            · obtain ⟨g1, g2⟩ := h1 0 o rfl
              exact SlR.move g1 g2 (hu : SlR H ρ o 0 none [u])
            · have := h1 (j + 1) o (by simpa [handL] using hj)
              rwa [show n + (j + 1) = n + 1 + j by omega] at this
            · have := h2 (j + 1) (by simpa [handL] using hj)
              rwa [show n + (j + 1) = n + 1 + j by omega] at this
            · have := h3 (j + 1) x (by simpa [rowsB] using hj)
              rwa [show n + (j + 1) = n + 1 + j by omega] at this
          · cases e1
        · cases e1
       | _ => simp [toArg] at e1
      | f =>
       cases v with
       | fn g cp =>
        cases cp with
        | un =>
          rw [toArg] at e1
          cases e1
          exact ⟨u, r, rfl, hu, args_rv h ms vs n e2 hr h1 h2 h3 hL⟩
        | _ => simp [toArg] at e1
       | _ => simp [toArg] at e1
      | p s =>
       have hL2 := hL.mono (l' := datRefs ms vs) fun o ho => List.mem_append_right _ ho
       cases v with
       | vptr t x =>
        rw [toArg] at e1
        split at e1
        · rename_i e
          subst e; cases e1
          refine ⟨u, r, rfl, ?_, args_rv h ms vs n e2 hr h1 h2 h3 hL2⟩
          exact RX.vptr_let (H' := H') (ρ' := ρ') hL.sub hu
        · cases e1
       | ptr o p =>
        cases p with
        | nil =>
          rw [toArg] at e1
          cases fresh with
          | false => cases e1
          | true =>
            simp only [if_true] at e1
            split at e1
            · rename_i t x hob
              split at e1
              · rename_i e
                subst e; cases e1
                refine ⟨u, r, rfl, ?_, args_rv h ms vs n e2 hr h1 h2 h3 hL2⟩
                exact ptr_lent h hob hu (hL.mono (l' := [o]) fun o' ho => List.mem_append_left _ ho)
              · cases e1
            · cases e1
        | cons _ _ => simp [toArg] at e1
       | _ => simp [toArg] at e1
    · cases ha
end
end Go.AI

/- Calls by contract are steps. -/
noncomputable section
namespace Go.AI
open Go Go.RowKit

section
variable {P : Program} {c c2 : Ctx P} {w w' : World} {H H1 H2 R : List AObj} {ρ ρ' : Rho} {o : Nat}

theorem rowsB_row : ∀ (bs : List BV) (j : Nat) {r : AObj}, (rowsB bs)[j]? = some r → ∃ E s xs, r = .row E s xs false
  | [], j, r, h => by simp [rowsB] at h
  | .d _ _ :: bs, j, r, h => rowsB_row bs j h
  | .f _ :: bs, j, r, h => rowsB_row bs j h
  | .p _ _ :: bs, j, r, h => rowsB_row bs j h
  | .o E s xs :: bs, j, r, h => by
    cases j with
    | zero => simp only [rowsB, List.getElem?_cons_zero, Option.some.injEq] at h; exact ⟨E, s, xs, h.symm⟩
    | succ j => exact rowsB_row bs j (by simpa [rowsB] using h)
theorem obj_get {j : Nat} {r : AObj} (h : R[j]? = some r) : ASt.obj R j = r := by simp [obj_getD, List.getD, h]
theorem obj_rowsB (bs : List BV) (j : Nat) : (∃ E s xs, ASt.obj (rowsB bs) j = .row E s xs false ∧ (rowsB bs)[j]? = some (.row E s xs false)) ∨ (ASt.obj (rowsB bs) j = .free ∧ (rowsB bs).length ≤ j) := by
  rcases Nat.lt_or_ge j (rowsB bs).length with h | h
  · obtain ⟨E, s, xs, e⟩ := rowsB_row bs j (List.getElem?_eq_getElem h)
    refine .inl ⟨E, s, xs, ?_, ?_⟩
    · rw [obj_get (List.getElem?_eq_getElem h), e]
    · rw [List.getElem?_eq_getElem h, e]
  · exact .inr ⟨obj_of_ge h, h⟩

theorem flatB (bs : List BV) {j : Nat} {r : Option (Nat × Nat)} {b C : Nat} (h : Hold (ASt.obj (rowsB bs) j) r b C) : r = some (b, C) := by
  refine Hold.flat ?_ h
  rcases obj_rowsB bs j with ⟨E, s, xs, e, _⟩ | ⟨e, _⟩ <;> rw [e] <;> rfl
/-- The places of what is handed over. -/
def handR (l : List (Option Nat)) (ρ : Rho) : Rho := fun i => match l[i]? with
  | some (some o) => ρ o
  | _ => none

theorem handR_some {l : List (Option Nat)} {i : Nat} {p : Nat × Nat} (h : handR l ρ i = some p) : ∃ o, l[i]? = some (some o) ∧ ρ o = some p := by
  unfold handR at h
  split at h
  · rename_i o e; exact ⟨o, e, h⟩
  · cases h

/-- What is handed over makes the start of another run, or the end of this one. -/
theorem hand_core (h : StOk c w H ρ) {fresh : Bool} {ms : List PM} {vs : List AV} {bs : List BV} {U : Upd} {us : List Value} (ha : toArgs fresh H ms vs = some (bs, U)) (ho : onceOnly U vs = true) (hv : AllRV w (Avoid c.X H ρ) H ρ vs us)
    (hX : ∀ b, c2.X b → Avoid c.X H ρ b) (hdat : ∀ o, o ∈ datRefs ms vs → ∀ g C, (ASt.obj H o).live = true → ρ o = some (g, C) → ¬ c2.X g) (hown : ∀ o, o ∈ handN ms vs → ∀ g C, (ASt.obj H o).live = true → ρ o = some (g, C) → Own c2 g)
    (hfr : Fr c2 w) (hold : ∀ b, c2.X b → b < c2.w0.heap.size) :
    StOk c2 w (rowsB bs) (handR (handL ms vs) ρ) ∧ AllRV w (Avoid c2.X (rowsB bs) (handR (handL ms vs) ρ)) (rowsB bs) (handR (handL ms vs) ρ) (avsB bs 0) us := by
  have hA := toArgs_is ms vs ha
  have row : ∀ i p, handR (handL ms vs) ρ i = some p → ∃ o E s xs, (handL ms vs)[i]? = some (some o) ∧ ρ o = some p ∧ ASt.obj H o = .row E s xs false ∧ ASt.obj (rowsB bs) i = .row E s xs false := by
    intro i p hp
    obtain ⟨o, h1, h2⟩ := handR_some hp
    obtain ⟨E, s, xs, h3, h4⟩ := hA.row_ i o h1
    exact ⟨o, E, s, xs, h1, h2, h3, obj_get h4⟩
  have hAv : ∀ b, Avoid c2.X (rowsB bs) (handR (handL ms vs) ρ) b → Avoid c.X H ρ b := by
    rintro b (hx | ⟨i, C, _, hr⟩)
    · exact hX b hx
    · obtain ⟨o, E, s, xs, _, h2, h3, _⟩ := row i _ (flatB bs hr)
      exact .inr ⟨o, C, by rw [h3]; rfl, .own h2⟩
  have hLets : Lets c H ρ (Avoid c2.X (rowsB bs) (handR (handL ms vs) ρ)) (datRefs ms vs) := by
    refine ⟨hAv, fun o hd g C hl hr => ?_⟩
    rintro (hx | ⟨i, C', _, hr'⟩)
    · exact hdat o hd g C hl hr hx
    · obtain ⟨o', E, s, xs, h1, h2, h3, _⟩ := row i _ (flatB bs hr')
      have := h.inj o o' g C C' hl (by rw [h3]; rfl) (.own hr) (.own h2)
      subst this
      exact (once_ok hA ho (mem_handN h1)).2 hd
  refine ⟨⟨fun i => ?_, fun i j g C C' hl hl' hr hr' => ?_, hfr, hold⟩, ?_⟩
  · rcases obj_rowsB bs i with ⟨E, s, xs, e, hi⟩ | ⟨e, _⟩
    · rw [e]
      have hlt : i < (handL ms vs).length := by rw [← hA.len]; exact (List.getElem?_eq_some_iff.1 hi).1
      cases hh : (handL ms vs)[i]? with
      | none => rw [List.getElem?_eq_none_iff] at hh; omega
      | some x =>
        cases x with
        | none =>
          obtain ⟨E', s', h1⟩ := hA.nil_ i hh
          rw [hi] at h1
          cases h1
          exact .inl ⟨by simp [handR, hh], rfl⟩
        | some o =>
          obtain ⟨E', s', xs', h1, h2⟩ := hA.row_ i o hh
          rw [hi] at h2
          cases h2
          have hob := h.obj o
          rw [h1] at hob
          have hρ : handR (handL ms vs) ρ i = ρ o := by simp [handR, hh]
          rcases hob with ⟨g1, g2⟩ | ⟨g, C, g1, _, cur, E2, g3, g3b, g4, g5, g6, g7⟩
          · exact .inl ⟨hρ.trans g1, g2⟩
          · exact .inr ⟨g, C, hρ.trans g1, hown o (mem_handN hh) g C (by rw [h1]; rfl) g1, cur, E2, g3, g3b, g4, g5, g6, RepL.mono (fun x c => RepC.keeps (Keeps.refl _ _) (fun b _ hb => hAv b hb) _) g7⟩
    · rw [e]; trivial
  · obtain ⟨o1, _, _, _, h1, h2, h3, _⟩ := row i _ (flatB bs hr)
    obtain ⟨o2, _, _, _, k1, k2, k3, _⟩ := row j _ (flatB bs hr')
    have := h.inj o1 o2 g C C' (by rw [h3]; rfl) (by rw [k3]; rfl) (.own h2) (.own k2)
    subst this
    exact once_inj hA ho h1 k1
  · refine args_rv h ms vs 0 ha hv (fun j o hj => ?_) (fun j hj => ?_) (fun j r hj => ?_) hLets
    · obtain ⟨E, s, xs, h1, h2⟩ := hA.row_ j o hj
      rw [Nat.zero_add, obj_get h2, h1]
      exact ⟨rfl, by simp [handR, hj]⟩
    · rw [Nat.zero_add]; simp [handR, hj]
    · rw [Nat.zero_add]; exact obj_get hj

def newR (nid n : Nat) (ρ ρ' : Rho) : Rho := fun o => if nid ≤ o ∧ o < nid + n then ρ' (o - nid) else ρ o
theorem newR_in {nid n j : Nat} (h : j < n) : newR nid n ρ ρ' (nid + j) = ρ' j := by
  unfold newR
  rw [if_pos ⟨by omega, by omega⟩]
  congr 1; omega
theorem newR_out {nid n o : Nat} (h : ¬ (nid ≤ o ∧ o < nid + n)) : newR nid n ρ ρ' o = ρ o := by simp [newR, h]

theorem RepC.flat {A A' : Nat → Prop} : ∀ (s : Sch) {x : s.T} {cs : List Value}, s.flat = true → RepC w A s x cs → RepC w' A' s x cs
  | .int k, _, _, _, h => h
  | .bool, _, _, _, h => h
  | .str, _, _, _, h => h
  | .slc s, _, _, hf, _ => by simp [Sch.flat] at hf
  | .arr n s, xs, cs, hf, h => ⟨h.1, RepL.mono (fun x c => RepC.flat s hf) h.2⟩
  | .pair a b, x, _, hf, h => by
    simp only [Sch.flat, Bool.and_eq_true] at hf
    obtain ⟨c, r, e, h1, h2⟩ := h
    exact ⟨c, r, e, RepC.flat a hf.1 h1, RepC.flat b hf.2 h2⟩
  | .unit, _, _, _, h => h
theorem RowOk.flat {A A' : Nat → Prop} {E : TypeId} {fz : Bool} {s : Sch} {xs : List s.T} {g C : Nat} (hf : s.flat = true) (h : RowOk w A E fz s xs g C) : RowOk w A' E fz s xs g C := by
  obtain ⟨cur, E2, h1, h1b, h2, h3, h4, h5⟩ := h
  exact ⟨cur, E2, h1, h1b, h2, h3, h4, RepL.mono (fun x c => RepC.flat s hf) h5⟩
theorem rows_flat : ∀ (rs : List BV), rs.all BV.flat = true → ∀ (j : Nat) {E : TypeId} {s : Sch} {xs : List s.T} {fz : Bool}, (rowsB rs)[j]? = some (.row E s xs fz) → s.flat = true
  | [], _, j, E, s, xs, fz, h => by simp [rowsB] at h
  | .d _ _ :: rs, hf, j, E, s, xs, fz, h => by simp only [List.all_cons, Bool.and_eq_true] at hf; exact rows_flat rs hf.2 j h
  | .f _ :: rs, hf, j, E, s, xs, fz, h => by simp only [List.all_cons, Bool.and_eq_true] at hf; exact rows_flat rs hf.2 j h
  | .p _ _ :: rs, hf, j, E, s, xs, fz, h => by simp [BV.flat] at hf
  | .o E' s' xs' :: rs, hf, j, E, s, xs, fz, h => by
    simp only [List.all_cons, Bool.and_eq_true] at hf
    cases j with
    | zero =>
      simp only [rowsB, List.getElem?_cons_zero, Option.some.injEq, AObj.row.injEq] at h
      obtain ⟨_, rfl, _⟩ := h
      exact hf.1
    | succ j => exact rows_flat rs hf.2 j (by simpa [rowsB] using h)

/-- A call has returned. -/
theorem Tr.called (h : StOk c w H ρ) (ht : Tame H H1) (hc2 : c2.w0 = w) (hS : ∀ g, g ∈ c2.S → Own c g ∧ Avoid c.X H ρ g ∧ ∀ o C, (ASt.obj H1 o).live = true → ¬ Hold (ASt.obj H1 o) (ρ o) g C) {rs : List BV}
    (hX : rs.all BV.flat = true ∨ ∀ b, Avoid c.X H1 ρ b → c2.X b) (h2 : StOk c2 w' (rowsB rs) ρ') {nid : Nat} (hfree : ∀ j, j < (rowsB rs).length → ASt.obj H1 (nid + j) = .free)
    (hnew : ∀ j, j < (rowsB rs).length → ASt.obj H2 (nid + j) = ASt.obj (rowsB rs) j) (hoth : ∀ o, ¬ (nid ≤ o ∧ o < nid + (rowsB rs).length) → ASt.obj H2 o = ASt.obj H1 o) :
    Tr c w H ρ w' H2 (newR nid (rowsB rs).length ρ ρ') := by
  subst hc2
  generalize hn : (rowsB rs).length = n at *
  have isnew : ∀ o, (nid ≤ o ∧ o < nid + n) → ∃ j, j < n ∧ o = nid + j := fun o ho => ⟨o - nid, by omega, by omega⟩
  have ownB : ∀ j g C, j < n → ρ' j = some (g, C) → Own c2 g := by
    intro j g C hj hr
    have hob := h2.obj j
    rcases obj_rowsB rs j with ⟨E, s, xs, e, _⟩ | ⟨_, hge⟩
    · rw [e] at hob
      rcases hob with ⟨h1, _⟩ | ⟨g', C', h1, h3, _⟩
      · rw [hr] at h1; cases h1
      · rw [hr] at h1; cases h1; exact h3
    · omega
  have hk : Keeps (Avoid c.X H ρ) c2.w0 w' := ⟨h2.fr.size, fun b hb hA => h2.fr.block b hb (fun hs => hA (hS b hs).2.1)⟩
  have hav : ∀ b, b < c2.w0.heap.size → Avoid c.X H2 (newR nid n ρ ρ') b → Avoid c.X H ρ b := by
    intro b hb
    rintro (hx | ⟨o, C, hm, hr⟩)
    · exact .inl hx
    · by_cases ho : nid ≤ o ∧ o < nid + n
      · obtain ⟨j, hj, rfl⟩ := isnew o ho
        rw [newR_in hj, hnew j hj] at hr
        rcases (ownB j b C hj (flatB rs hr)).may with hs | hs
        · exact (hS b hs).2.1
        · omega
      · rw [newR_out ho, hoth o ho] at hr
        rw [hoth o ho] at hm
        exact .inr ⟨o, C, ht.mut hm, ht.hold (AObj.mut_live hm) hr⟩
  have hfreeH : ∀ o, ASt.obj H1 o = .free → ASt.obj H o = .free := by
    intro o e
    rcases ht o with e1 | e1 | ⟨e1, _⟩
    · rw [← e1]; exact e
    · rw [e] at e1
      exact freeze_free e1.symm
    · rw [e] at e1; cases e1
  have hcomp : Compat H ρ H2 (newR nid n ρ ρ') := by
    intro o ho
    have hno : ¬ (nid ≤ o ∧ o < nid + n) := fun hin => by
      obtain ⟨j, hj, rfl⟩ := isnew o hin
      exact ho (hfreeH _ (hfree j hj))
    rw [newR_out hno, hoth o hno]
    exact (ht.compat h) o ho
  have hAv2 : rs.all BV.flat = true ∨ ∀ b, Avoid c.X H2 (newR nid n ρ ρ') b → Avoid c2.X (rowsB rs) ρ' b := by
    rcases hX with hX | hX
    · exact .inl hX
    right
    rintro b (hx | ⟨o, C, hm, hr⟩)
    · exact .inl (hX b (.inl hx))
    · by_cases ho : nid ≤ o ∧ o < nid + n
      · obtain ⟨j, hj, rfl⟩ := isnew o ho
        rw [newR_in hj, hnew j hj] at hr
        rw [hnew j hj] at hm
        exact .inr ⟨j, C, hm, hr⟩
      · rw [newR_out ho, hoth o ho] at hr
        rw [hoth o ho] at hm
        exact .inl (hX b (.inr ⟨o, C, hm, hr⟩))
  refine ⟨hk, hav, hcomp, ⟨fun o => ?_, fun o o' g C C' hl hl' hr hr' => ?_, ⟨h2.fr.os.trans h.fr.os, h2.fr.tape.trans h.fr.tape, h2.fr.output.trans h.fr.output, Nat.le_trans h.fr.size h2.fr.size, fun b hb hS' => ?_⟩, h.old⟩⟩
  · by_cases ho : nid ≤ o ∧ o < nid + n
    · obtain ⟨j, hj, rfl⟩ := isnew o ho
      rw [hnew j hj]
      have hob := h2.obj j
      rcases obj_rowsB rs j with ⟨E, s, xs, e, hej⟩ | ⟨_, hge⟩
      · rw [e] at hob ⊢
        rcases hob with ⟨h1, h3⟩ | ⟨g, C, h1, h3, h4⟩
        · exact .inl ⟨by rw [newR_in hj]; exact h1, h3⟩
        · refine .inr ⟨g, C, by rw [newR_in hj]; exact h1, ⟨?_, ?_⟩, ?_⟩
          · rcases h3.may with hs | hs
            · exact (hS g hs).1.may
            · exact .inr (Nat.le_trans h.fr.size hs)
          · rcases h3.may with hs | hs
            · exact (hS g hs).1.notX
            · intro hx
              have := h.old g hx
              have := h.fr.size
              omega
          · rcases hAv2 with hz | hAv2
            · exact RowOk.flat (rows_flat rs hz j hej) h4
            · exact h4.mono (Keeps.refl _ _) (fun b _ hb => hAv2 b hb) rfl
      · omega
    · rw [hoth o ho]
      rcases (ASt.obj H1 o).cases3 with e | e | e
      · rw [e]; trivial
      · rw [e]; trivial
      · obtain ⟨hl, hor⟩ := ht.live e
        have hob := (h.obj o).mono hk hav hcomp (newR_out ho) (fun _ g C hr => h2.fr.block g (h.lt hl hr).1 (fun hs => (hS g hs).2.2 o C e (by rcases hor with e1 | e1 <;> rw [e1]; exact hr; exact hr.same (freeze_fam _).symm)))
        rcases hor with e1 | e1
        · rw [e1]; exact hob
        · rw [e1]; exact frozen_ok hob
  · have mixed : ∀ o o' g C C', (nid ≤ o ∧ o < nid + n) → ¬ (nid ≤ o' ∧ o' < nid + n) → (ASt.obj H2 o').live = true → Hold (ASt.obj H2 o) (newR nid n ρ ρ' o) g C → Hold (ASt.obj H2 o') (newR nid n ρ ρ' o') g C' → False := by
      intro o o' g C C' ho ho' hl' hr hr'
      obtain ⟨j, hj, rfl⟩ := isnew o ho
      rw [newR_in hj, hnew j hj] at hr
      rw [newR_out ho', hoth o' ho'] at hr'
      rw [hoth o' ho'] at hl'
      rcases (ownB j g C hj (flatB rs hr)).may with hs | hs
      · exact (hS g hs).2.2 o' C' hl' hr'
      · have := (h.lt (ht.live hl').1 (ht.hold hl' hr')).1; omega
    by_cases ho : nid ≤ o ∧ o < nid + n <;> by_cases ho' : nid ≤ o' ∧ o' < nid + n
    · obtain ⟨j, hj, rfl⟩ := isnew o ho
      obtain ⟨j', hj', rfl⟩ := isnew o' ho'
      rw [newR_in hj, hnew j hj] at hr
      rw [newR_in hj', hnew j' hj'] at hr'
      rw [hnew j hj] at hl
      rw [hnew j' hj'] at hl'
      have := h2.inj j j' g C C' hl hl' hr hr'
      omega
    · exact (mixed o o' g C C' ho ho' hl' hr hr').elim
    · exact (mixed o' o g C' C ho' ho hl hr' hr).elim
    · rw [newR_out ho, hoth o ho] at hr
      rw [newR_out ho', hoth o' ho'] at hr'
      rw [hoth o ho] at hl
      rw [hoth o' ho'] at hl'
      exact h.inj o o' g C C' (ht.live hl).1 (ht.live hl').1 (ht.hold hl hr) (ht.hold hl' hr')
  · have h1 : b ∉ c2.S := fun hs => by
      rcases (hS b hs).1.may with h3 | h3
      · exact hS' h3
      · omega
    exact (h2.fr.block b (Nat.lt_of_lt_of_le hb h.fr.size) h1).trans (h.fr.block b hb hS')
end
end Go.AI
