/- One operation that is no call of a function. -/
import Derived.Test.YtadpmbipdafjiaaCut2
namespace Go.AI
open Go Go.RowKit

section
variable {P : Program} {Γ : Gam} {c : Ctx} {w : World} {H H' : List AObj} {ρ : Rho} {o : Oper} {cur : List AV} {a : Act}

/-- What an operation leads to. -/
def StepOk (P : Program) (c : Ctx) (w : World) (H : List AObj) (ρ : Rho) (o : Oper) (a : Act) (v : AV) (U : Upd) : Prop :=
  ∀ (next : Act → World → Prop) (Q : Exit → Act → World → Prop),
    (∀ val w' ρ', RV w' (Avoid c.X (upd H U) ρ') (upd H U) ρ' v val → Tr c w H ρ w' (upd H U) ρ' → next (a.put o.dst val) w') → o.wp P a w next Q

theorem StepOk.gives {s : Sem Value} {v : AV} {U : Upd} (he : execOp a.eval o = (do pure (.value (← s)))) (h : Gives P c w H ρ s v U) : StepOk P c w H ρ o a v U := by
  intro next Q hn
  obtain ⟨val, w', ρ', hr, hv, hT⟩ := h
  unfold Oper.wp
  rw [he, Sem.run_bind, hr]
  exact hn val w' ρ' hv hT
theorem StepOk.value {v : AV} {val : Value} (h : StOk c w H ρ) (he : execOp a.eval o = pure (.value val)) (hv : RV w (Avoid c.X H ρ) H ρ v val) : StepOk P c w H ρ o a v [] := by
  intro next Q hn
  unfold Oper.wp
  rw [he]
  exact hn val w ρ hv (Tr.refl h)
theorem StepOk.skip {s : Sem Unit} {w' : World} {U : Upd} (he : execOp a.eval o = (do s; pure .skip)) (hr : s.run P w = .ok () w') (hT : Tr c w H ρ w' (upd H U) ρ) : StepOk P c w H ρ o a .dead U := by
  intro next Q hn
  unfold Oper.wp
  rw [he, Sem.run_bind, hr]
  exact hn undef w' ρ trivial hT

theorem plainAns_some {r : Option (Bool × AV)} {c : Bool} {v : AV} {U : Upd} (h : plainAns r = some (c, v, U)) : r = some (c, v) ∧ U = [] := by
  unfold plainAns at h
  cases r with
  | none => cases h
  | some x => simp only [Option.map_some, Option.some.injEq, Prod.mk.injEq] at h; obtain ⟨rfl, rfl, rfl⟩ := h; exact ⟨rfl, rfl⟩
theorem plainAV_some {r : Option AV} {c : Bool} {v : AV} {U : Upd} (h : plainAV r = some (c, v, U)) : r = some v ∧ U = [] := by
  unfold plainAV at h
  cases r with
  | none => cases h
  | some x => simp only [Option.map_some, Option.some.injEq, Prod.mk.injEq] at h; obtain ⟨_, rfl, rfl⟩ := h; exact ⟨rfl, rfl⟩

theorem zero_sch (hΓ : GamOk P Γ) {t : TypeId} {s : Sch} (h : Γ.sch t = some s) : ∃ z, ∀ w, (zeroValue t).run P w = .ok z w ∧ z.cells.toList = zcells s := by
  obtain ⟨i, z, hi, hz, hzc, _⟩ := SchOk.info (sch_ok hΓ h)
  exact ⟨z, fun w => ⟨by simp [zeroValue, typeInfo, hi, hz], hzc⟩⟩

/-- A built-in function. -/
theorem builtin_ok (hΓ : GamOk P Γ) (h : StOk c w H ρ) {b : Builtin} {args : Array Operand} {ts : Array TypeId} (hfr : FrOk w (Avoid c.X H ρ) H ρ cur a.tmps)
    (hop : o.op = .call { callee := .builtin b, args := args, argTypes := ts }) {nid : Nat} {v : AV} {U : Upd} (ha : aBuiltin Γ b ts.toList (args.toList.map (opnd cur)) H nid = some (true, v, U)) : StepOk P c w H ρ o a v U := by
  have hev : ∀ (i : Nat) (x : Operand), args.toList[i]? = some x → RV w (Avoid c.X H ρ) H ρ (opnd cur x) (a.eval x) := fun i x _ => opnd_ok hfr x
  unfold aBuiltin at ha
  split at ha
  · rename_i t x hts hxs
    obtain ⟨ht, hn⟩ := ite_some ha
    match hargs : args.toList, hxs with
    | [y], hxs =>
      simp only [List.map_cons, List.map_nil, List.cons.injEq, and_true] at hxs
      subst hxs
      have e1 : args = #[y] := Array.toList_inj.1 hargs
      have e2 : ts = #[t] := Array.toList_inj.1 hts
      subst e1; subst e2
      cases hl : lenOf H (opnd cur y) with
      | none => simp [hl] at hn
      | some n =>
        rw [hl] at hn
        cases hn
        exact StepOk.gives (by simp [execOp, hop, resolve, invoke, builtin]) (len_ok hΓ h (ty := o.type) (opnd_ok hfr y) ht hl)
    | [], hxs => simp at hxs
    | _ :: _ :: _, hxs => simp at hxs
  · rename_i t t' x y hts hxs
    obtain ⟨ht, hn⟩ := ite_some ha
    match hargs : args.toList, hxs with
    | [x', y'], hxs =>
      simp only [List.map_cons, List.map_nil, List.cons.injEq, and_true] at hxs
      obtain ⟨rfl, rfl⟩ := hxs
      have e1 : args = #[x', y'] := Array.toList_inj.1 hargs
      have e2 : ts = #[t, t'] := Array.toList_inj.1 hts
      subst e1; subst e2
      exact StepOk.gives (by simp [execOp, hop, resolve, invoke, builtin]) (aAppend_ok hΓ h (t' := t') (ty := o.type) (opnd_ok hfr x') (opnd_ok hfr y') (by simpa using ht) hn)
    | [], hxs => simp at hxs
    | [_], hxs => simp at hxs
    | _ :: _ :: _ :: _, hxs => simp at hxs
  · rename_i t r x y hts hxs
    match hargs : args.toList, hxs with
    | [x', y'], hxs =>
      simp only [List.map_cons, List.map_nil, List.cons.injEq, and_true] at hxs
      obtain ⟨rfl, rfl⟩ := hxs
      have e1 : args = #[x', y'] := Array.toList_inj.1 hargs
      subst e1
      have h0 : ts[0]? = some t := by rw [← Array.getElem?_toList, hts]; rfl
      exact StepOk.gives (by simp [execOp, hop, resolve, invoke, builtin]) (copy_ok hΓ h (ty := o.type) h0 (opnd_ok hfr x') (opnd_ok hfr y') ha)
    | [], hxs => simp at hxs
    | [_], hxs => simp at hxs
    | _ :: _ :: _ :: _, hxs => simp at hxs
  · rename_i t x hts hxs
    match hargs : args.toList, hxs with
    | [x'], hxs =>
      simp only [List.map_cons, List.map_nil, List.cons.injEq, and_true] at hxs
      subst hxs
      have e1 : args = #[x'] := Array.toList_inj.1 hargs
      have e2 : ts = #[t] := Array.toList_inj.1 hts
      subst e1; subst e2
      exact StepOk.gives (by simp [execOp, hop, resolve, invoke, builtin]) (clear_ok hΓ h (ty := o.type) (opnd_ok hfr x') ha)
    | [], hxs => simp at hxs
    | _ :: _ :: _, hxs => simp at hxs
  · rename_i k y r hxs
    match hargs : args.toList, hxs with
    | x' :: r', hxs =>
      simp only [List.map_cons, List.cons.injEq] at hxs
      obtain ⟨e0, rfl⟩ := hxs
      cases hm : aMinMax true k y (r'.map (opnd cur)) with
      | none => simp [hm] at ha
      | some n =>
        simp only [hm, Option.map_some, Option.some.injEq, Prod.mk.injEq, true_and] at ha
        obtain ⟨rfl, rfl⟩ := ha
        have hx0 := opnd_ok hfr x'
        rw [e0] at hx0
        obtain ⟨e3, hw⟩ := RV.int hx0
        obtain ⟨g1, g2⟩ := minMax_ok (P := P) (w := w) (H := H) (ρ := ρ) (c := c) true k (r'.map (opnd cur)) (r'.map a.eval) y n (by simp) (fun i v u hv hu => by
          rw [List.getElem?_map] at hv hu
          cases hx : r'[i]? with
          | none => rw [hx] at hv; cases hv
          | some z => rw [hx] at hv hu; simp only [Option.map_some, Option.some.injEq] at hv hu; subst hv; subst hu; exact opnd_ok hfr z) hw hm
        have e1 : (args.map a.eval).toList = .int k (toI k y) :: r'.map a.eval := by rw [Array.toList_map, hargs, List.map_cons, e3]
        refine StepOk.gives (s := Builtin.max_ ts o.type (args.map a.eval)) (by simp [execOp, hop, resolve, invoke, builtin]) (Gives.same h ?_ (RV.mk_int g2))
        simp only [Builtin.max_, e1]
        exact g1
    | [], hxs => simp at hxs
  · rename_i k y r hxs
    match hargs : args.toList, hxs with
    | x' :: r', hxs =>
      simp only [List.map_cons, List.cons.injEq] at hxs
      obtain ⟨e0, rfl⟩ := hxs
      cases hm : aMinMax false k y (r'.map (opnd cur)) with
      | none => simp [hm] at ha
      | some n =>
        simp only [hm, Option.map_some, Option.some.injEq, Prod.mk.injEq, true_and] at ha
        obtain ⟨rfl, rfl⟩ := ha
        have hx0 := opnd_ok hfr x'
        rw [e0] at hx0
        obtain ⟨e3, hw⟩ := RV.int hx0
        obtain ⟨g1, g2⟩ := minMax_ok (P := P) (w := w) (H := H) (ρ := ρ) (c := c) false k (r'.map (opnd cur)) (r'.map a.eval) y n (by simp) (fun i v u hv hu => by
          rw [List.getElem?_map] at hv hu
          cases hx : r'[i]? with
          | none => rw [hx] at hv; cases hv
          | some z => rw [hx] at hv hu; simp only [Option.map_some, Option.some.injEq] at hv hu; subst hv; subst hu; exact opnd_ok hfr z) hw hm
        have e1 : (args.map a.eval).toList = .int k (toI k y) :: r'.map a.eval := by rw [Array.toList_map, hargs, List.map_cons, e3]
        refine StepOk.gives (s := Builtin.min_ ts o.type (args.map a.eval)) (by simp [execOp, hop, resolve, invoke, builtin]) (Gives.same h ?_ (RV.mk_int g2))
        simp only [Builtin.min_, e1]
        exact g1
    | [], hxs => simp at hxs
  · cases ha

theorem small_ok {A : Nat → Prop} {v : AV} {cs : List Value} (h : RX w A H ρ v true cs) (hs : avSmall v = true) : ∀ e, (AObj.box v).elems = some e → e.xs.length ≤ maxLen := by
  intro e he
  match v, he with
  | .dat (.arr n s) xs, he =>
    simp only [AObj.elems, Option.some.injEq] at he
    subst he
    have hl : xs.length = n := (h : RepC w A (.arr n s) xs cs).1
    simp only [avSmall, boxSmall, decide_eq_true_eq] at hs
    simp only; omega

/-- One operation. -/
theorem aop_ok (hΓ : GamOk P Γ) (h : StOk c w H ρ) (hfr : FrOk w (Avoid c.X H ρ) H ρ cur a.tmps) {nid : Nat} {v : AV} {U : Upd} (ha : aop Γ o.op cur H nid = some (true, v, U)) : StepOk P c w H ρ o a v U := by
  generalize hop : o.op = op at ha
  have hx := fun x => opnd_ok hfr (a := a) x
  unfold aop at ha
  split at ha
  case _ x => cases ha; exact StepOk.value h (by simp [execOp, hop]) (hx x)
  case _ x => cases ha; exact StepOk.value h (by simp [execOp, hop]) (hx x)
  case _ cd p q =>
    have hc := hx cd
    simp only at ha
    split at ha
    · rename_i e
      cases ha
      rw [e] at hc
      have hb := RV.bool hc
      exact StepOk.value h (val := a.eval p) (by simp [execOp, hop, hb, asBool]) (hx p)
    · rename_i e
      cases ha
      rw [e] at hc
      have hb := RV.bool hc
      exact StepOk.value h (val := a.eval q) (by simp [execOp, hop, hb, asBool]) (hx q)
    · cases ha
  case _ t =>
    simp only at ha
    split at ha
    · rename_i s hs
      obtain ⟨hsm, ha⟩ := ite_some ha
      cases hU : newObj? H nid (.box (.dat s s.dflt)) with
      | none => rw [hU] at ha; cases ha
      | some U' =>
        rw [hU] at ha
        cases ha
        obtain ⟨z, hz⟩ := zero_sch hΓ hs
        have hrep : RX w (Avoid c.X H ρ) H ρ (.dat s s.dflt) true z.cells.toList := by rw [(hz w).2]; exact RepC.zero _ _ s
        obtain ⟨val, w', ρ', g1, g2, g3⟩ := box_ok (P := P) h (t := t) hrep rfl (small_ok hrep hsm) hU
        refine StepOk.gives (s := Instr.alloc t true (.tuple #[])) (by simp [execOp, hop]) ⟨val, w', ρ', ?_, g2, g3⟩
        unfold Instr.alloc
        rw [Sem.run_bind, (hz w).1]
        exact g1
    · cases ha
  case _ t x =>
    obtain ⟨hs, ha⟩ := ite_some ha
    simp only [Bool.and_eq_true] at hs
    cases hU : newObj? H nid (.box (opnd cur x)) with
    | none => rw [hU] at ha; cases ha
    | some U' =>
      rw [hU] at ha
      cases ha
      exact StepOk.gives (s := Instr.box t (a.eval x)) (by simp [execOp, hop]) (box_ok h (t := t) (RV.cells hs.1 (hx x)) hs.1 (small_ok (RV.cells hs.1 (hx x)) hs.2) hU)
  case _ t parts =>
    split at ha
    · rename_i fs cl sc ht
      split at ha
      · rename_i z L hz
        obtain ⟨hb, rfl⟩ := plainAV_some ha
        exact StepOk.gives (by simp [execOp, hop]) (build_struct_ok hΓ h hfr ht hz hb)
      · cases ha
    · rename_i n e cl m s ht
      obtain ⟨hmn, ha⟩ := ite_some ha
      subst hmn
      cases hb : bldSlice s cur H parts.toList (List.replicate m s.dflt) [] with
      | none => rw [hb] at ha; cases ha
      | some r =>
        obtain ⟨ys, V⟩ := r
        rw [hb] at ha
        cases ha
        exact StepOk.gives (by simp [execOp, hop]) (build_array_ok hΓ h hfr ht rfl hb)
    · cases ha
  case _ t n parts =>
    split at ha
    · rename_i E s hel
      obtain ⟨hsm, ha⟩ := ite_some ha
      split at ha
      · rename_i xs V hb
        split at ha
        · cases ha
        · rename_i hnv
          cases hU : newObj? H nid (.row E s xs false) with
          | none => rw [hU] at ha; cases ha
          | some U' =>
            rw [hU] at ha
            cases ha
            exact StepOk.gives (by simp [execOp, hop]) (buildSlice_ok hΓ h hfr hel hsm.1 hsm.2 hb hU (by simpa using hnv))
      · cases ha
    · cases ha
  case _ t x =>
    exact StepOk.gives (s := Instr.loadAt t (a.eval x)) (by simp [execOp, hop]) (load_ok hΓ h (hx x) ha)
  case _ t x y =>
    obtain ⟨rfl, w', hrun, hT⟩ := store_ok hΓ h (hx x) (hx y) ha
    exact StepOk.skip (s := Instr.storeAt t (a.eval x) (a.eval y)) (by simp [execOp, hop]) hrun hT
  case _ x =>
    have hv := hx x
    simp only at ha
    split at ha
    · rename_i o' p e
      obtain ⟨hl, ha⟩ := ite_some ha
      cases ha
      rw [e] at hv
      have hv2 := hv
      rcases (hv : PtrR (ASt.obj H o') (ρ o') p [a.eval x]) with ⟨hg, _⟩ | ⟨_, g, C, off, l, _, _, hcs⟩
      · rw [hg] at hl; cases hl
      · simp only [List.cons.injEq, and_true] at hcs
        exact StepOk.value h (val := a.eval x) (by simp [execOp, hop, hcs]) hv2
    · rename_i s y e
      cases ha
      rw [e] at hv
      have hv2 := hv
      obtain ⟨ad, L, hcs, _⟩ := (hv : ∃ ad L, [a.eval x] = [Value.pointer (some ad)] ∧ ad.block < w.heap.size ∧ ¬ Avoid c.X H ρ ad.block ∧ RepC w (Avoid c.X H ρ) s y L ∧ CellsAt w ad L)
      simp only [List.cons.injEq, and_true] at hcs
      exact StepOk.value h (val := a.eval x) (by simp [execOp, hop, hcs]) hv2
    · rename_i f cp e
      cases ha
      rw [e] at hv
      have hv2 := hv
      obtain ⟨vs, hcs, _⟩ := (hv : ∃ vs : List Value, [a.eval x] = [Value.func (.func f) #[] vs.toArray] ∧ RX w (Avoid c.X H ρ) H ρ cp false vs)
      simp only [List.cons.injEq, and_true] at hcs
      exact StepOk.value h (val := a.eval x) (by simp [execOp, hop, hcs]) hv2
    · cases ha
  case _ op t x y z =>
    obtain ⟨hb, rfl⟩ := plainAns_some ha
    exact StepOk.gives (s := (do eqGuard op t x y (a.eval x) (a.eval y); binOp op t (a.eval x) (a.eval y))) (by simp [execOp, hop]) (binOp_ok hΓ h (hx x) (hx y) hb)
  case _ op t x =>
    obtain ⟨hb, rfl⟩ := plainAV_some ha
    exact StepOk.gives (s := Op.unary op (a.eval x)) (by simp [execOp, hop]) (unOp_ok h (hx x) hb)
  case _ s d x =>
    exact StepOk.gives (s := convert s d (a.eval x)) (by simp [execOp, hop]) (convert_ok hΓ h (hx x) ha)
  case _ f first caps =>
    obtain ⟨hc, ha⟩ := ite_some ha
    cases ha
    refine StepOk.gives (by simp [execOp, hop]) (makeFunc_ok h hfr hc.1 (fun x hx => ?_))
    have := List.all_eq_true.1 hc.2 x hx
    simpa using this
  case _ t l cp =>
    exact StepOk.gives (by simp [execOp, hop]) (make_ok hΓ h hfr ha)
  case _ t x lo hi mx =>
    obtain ⟨hb, rfl⟩ := plainAns_some ha
    exact StepOk.gives (by simp [execOp, hop]) (sliceX_ok hΓ h hfr hb)
  case _ t x f =>
    obtain ⟨hb, rfl⟩ := plainAV_some ha
    exact StepOk.gives (by simp [execOp, hop]) (fieldAddr_ok hΓ h (hx x) hb)
  case _ t x f =>
    obtain ⟨hb, rfl⟩ := plainAV_some ha
    exact StepOk.gives (by simp [execOp, hop]) (field_ok hΓ h (hx x) hb)
  case _ t x i =>
    exact StepOk.gives (by simp [execOp, hop]) (indexAddr_ok hΓ h (hx x) (hx i) ha)
  case _ t x i =>
    obtain ⟨hb, rfl⟩ := plainAns_some ha
    exact StepOk.gives (by simp [execOp, hop]) (index_ok hΓ h (hx x) (hx i) hb)
  case _ x i =>
    have hv := hx x
    simp only at ha
    split at ha
    · rename_i u e
      rw [e] at hv
      split at ha
      · cases ha
      · rename_i hd
        cases ha
        exact StepOk.gives (by simp [execOp, hop]) (extract_ok h hv (fun e => hd (by rw [e])))
    · cases ha
  case _ b args ts =>
    exact builtin_ok hΓ h hfr hop ha
  case _ => cases ha
end
end Go.AI
