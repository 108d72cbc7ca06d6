/- Functions. -/
import Derived.Test.YtaoimnfmhdmkmaaA4
import Derived.Orders
import Derived.DeepKeys
import Derived.DeepKeys3
import Derived.Test.YtaoimnfmhdmkmaaA2
import Derived.OpenShut
import Derived.Carry
import Derived.ChangeArms
import Derived.Below
import Derived.ChangeSame
import Derived.Test.YtaoimnfmhdmkmaaA1
noncomputable section
namespace Go.AI
open Go Go.RowKit

section
variable {P : Program} {Γ : Gam} {c : Ctx P} {w w' : World} {H H' : List AObj} {ρ ρ' : Rho} {st : ASt} {a : Act} {TS : Cal} {R : Type} [Subsingleton R]

theorem result_ok (hΓ : GamOk P Γ) (h : StOk c w H ρ) {cur : List AV} {tmps : Array Value} (hfr : FrOk w (Avoid c.X H ρ) H ρ cur tmps) {g : ResultVar → Sem Value} (hg1 : ∀ t, g (.tmp t) = pure (tmps.getD t undef)) (hg2 : ∀ ad t, g (.cell ad t) = do loadVar t (← asAddr (tmps.getD ad undef))) :
    ∀ (rs : List ResultVar) {vs : List AV}, resAVs Γ H cur rs = some vs → ∃ us : List Value, (rs.mapM g).run P w = .ok us w ∧ AllRV w (Avoid c.X H ρ) H ρ vs us ∧ ∀ v, v ∈ vs → v.isTup = false
  | [], vs, hr => by
    simp only [resAVs, Option.some.injEq] at hr
    subst hr
    exact ⟨[], by simp, rfl, fun v hv => by cases hv⟩
  | r :: rs, vs, hr => by
    simp only [resAVs] at hr
    split at hr
    · rename_i v vs' h1 h2
      split at hr
      · cases hr
      · rename_i ht
        cases hr
        obtain ⟨us, g1, g2, g3⟩ := result_ok hΓ h hfr hg1 hg2 rs h2
        have one : ∃ u, (g r).run P w = .ok u w ∧ RV w (Avoid c.X H ρ) H ρ v u := by
          cases r with
          | tmp t =>
            simp only [resAV, Option.some.injEq] at h1
            subst h1
            exact ⟨_, by rw [hg1]; rfl, hfr.at_ t⟩
          | cell ad t =>
            simp only [resAV] at h1
            split at h1
            · rename_i v' hl
              cases h1
              have hx := hfr.at_ ad
              obtain ⟨⟨val, e1, e2⟩, _⟩ := load_val hΓ h hx hl
              refine ⟨val, ?_, e2⟩
              rw [hg2, Sem.run_bind]
              generalize tmps.getD ad undef = xv at e1 ⊢
              unfold Instr.loadAt at e1
              rw [Sem.run_bind] at e1
              cases xv with
              | pointer q =>
                cases q with
                | some q => exact e1
                | none => simp [Instr.sureAddr, stuck] at e1
              | _ => simp [Instr.sureAddr, stuck] at e1
            · cases h1
        obtain ⟨u, e1, e2⟩ := one
        refine ⟨u :: us, ?_, ⟨u, us, rfl, e2, g2⟩, fun x hx => ?_⟩
        · rw [List.mapM_cons, Sem.run_bind, e1]
          simp only [Result.andThen_ok]
          rw [Sem.run_bind, g1]
          rfl
        · rcases List.mem_cons.1 hx with rfl | hx
          · simpa using ht
          · exact g3 x hx
    · cases hr

theorem results_ok (hΓ : GamOk P Γ) (h : StOk c w H ρ) {cur : List AV} {tmps : Array Value} (hfr : FrOk w (Avoid c.X H ρ) H ρ cur tmps) {fn : Func} {vs : List AV} (hr : resAVs Γ H cur fn.results.toList = some vs) :
    ∃ v us, (results fn tmps).run P w = .ok v w ∧ AllRV w (Avoid c.X H ρ) H ρ vs us ∧ IsPacked us v ∧ ∀ v, v ∈ vs → v.isTup = false := by
  have key := fun (g : ResultVar → Sem Value) hg1 hg2 => result_ok (g := g) hΓ h hfr hg1 hg2 fn.results.toList hr
  obtain ⟨us, h1, h2, h3⟩ := key (fun | .tmp t => pure (tmps.getD t undef) | .cell ad t => do loadVar t (← asAddr (tmps.getD ad undef))) (fun _ => rfl) (fun _ _ => rfl)
  refine ⟨if h : us.toArray.size = 1 then us.toArray[0] else .tuple us.toArray, us, ?_, h2, ?_, h3⟩
  · unfold results
    rw [Array.mapM_eq_mapM_toList, Sem.run_bind]
    have e : ∀ (m : Sem (List Value)), m.run P w = .ok us w → (Functor.map List.toArray m).run P w = .ok us.toArray w := by
      intro m hm
      rw [← bind_pure_comp, Sem.run_bind, hm]; rfl
    have h1' := e _ h1
    have : ∀ g : ResultVar → Sem Value, g = (fun | .tmp t => pure (tmps.getD t undef) | .cell ad t => do loadVar t (← asAddr (tmps.getD ad undef))) → ((Functor.map List.toArray (fn.results.toList.mapM g)).run P w).andThen (fun vs w' => (pure (if h : vs.size = 1 then vs[0] else .tuple vs) : Sem Value).run P w') = .ok (if h : us.toArray.size = 1 then us.toArray[0] else .tuple us.toArray) w := by
      intro g hg
      rw [hg, h1']; rfl
    exact this _ (by funext r; cases r <;> rfl)
  · match us with
    | [] => rfl
    | [u] => rfl
    | u :: u2 :: r => rfl

/-- A block for deferred calls is shut. -/
theorem cell_shut {D : Nat} {x : Option (List Deferred)} {o : Obj} (hD : w.heap[D]? = some (.deferred x)) {ad : Addr} {u : Value} (h : w.cell? ad = some u) : ad.block ≠ D ∧ (w.putObj D o).cell? ad = some u := by
  have hne : ad.block ≠ D := by
    rintro rfl
    unfold World.cell? at h
    rw [hD] at h; cases h
  refine ⟨hne, ?_⟩
  rw [World.cell?_of_block (w := w) (World.putObj_heap_other hne)]
  exact h
theorem RepC.shut {A : Nat → Prop} {D : Nat} {x : Option (List Deferred)} {o : Obj} (hD : w.heap[D]? = some (.deferred x)) : ∀ (s : Sch) {y : s.T} {cs : List Value}, RepC w A s y cs → RepC (w.putObj D o) A s y cs
  | .int k, _, _, h => h
  | .bool, _, _, h => h
  | .str, _, _, h => h
  | .slc s, xs, _, h => by
    obtain ⟨a, cap, rfl, h1, h2, h3⟩ := h
    refine ⟨a, cap, rfl, h1, h2, h3.imp id ?_⟩
    rintro ⟨ad, L, rfl, hb, hn, hr, hc⟩
    exact ⟨ad, L, rfl, by simpa using hb, hn, RepL.mono (fun x c => RepC.shut hD s) hr, fun j u hu => (cell_shut hD (hc j u hu)).2⟩
  | .arr n s, xs, c, h => ⟨h.1, RepL.mono (fun x c => RepC.shut hD s) h.2⟩
  | .pair a b, x, _, h => by
    obtain ⟨c, r, rfl, h1, h2⟩ := h
    exact ⟨c, r, rfl, RepC.shut hD a h1, RepC.shut hD b h2⟩
  | .unit, _, _, h => h
theorem RX.shut {A : Nat → Prop} {D : Nat} {x : Option (List Deferred)} {o : Obj} (hD : w.heap[D]? = some (.deferred x)) : ∀ (v : AV) (m : Bool) {cs : List Value}, RX w A H ρ v m cs → RX (w.putObj D o) A H ρ v m cs
  | .dat s x, true, cs, h => RepC.shut hD s h
  | .slx s xs, true, cs, h => by
    obtain ⟨a, e, h⟩ := h
    exact ⟨a, e, RepC.shut hD (.slc s) h⟩
  | .nils, true, cs, h => h
  | .emp, true, cs, h => h
  | .row o, true, cs, h => h
  | .sl o off len, true, cs, h => h
  | .vptr s x, true, cs, h => by
    obtain ⟨ad, L, e, hb, hn, hr, hcl⟩ := h
    exact ⟨ad, L, e, by simpa using hb, hn, RepC.shut hD s hr, fun j u hu => (cell_shut hD (hcl j u hu)).2⟩
  | .ptr o p, true, cs, h => h
  | .pr a b, true, cs, h => by
    obtain ⟨c, r, e, h1, h2⟩ := h
    exact ⟨c, r, e, RX.shut hD a true h1, RX.shut hD b true h2⟩
  | .un, true, cs, h => h
  | .fn f c, true, cs, h => by
    obtain ⟨vs, e, h⟩ := h
    exact ⟨vs, e, RX.shut hD c false h⟩
  | .nilfn, true, cs, h => h
  | .hnd k o, true, cs, h => h
  | .mv f c, true, cs, h => by
    obtain ⟨vs, e, h⟩ := h
    exact ⟨vs, e, RX.shut hD c false h⟩
  | .ifc t, true, cs, h => h
  | .nilp, true, cs, h => h
  | .nilm, true, cs, h => h
  | .fns _, true, cs, h => h
  | .fsel _ _, true, cs, h => h
  | .pk _ _, true, cs, h => h
  | .tup a, true, cs, h => h.elim
  | .dead, true, cs, h => h.elim
  | .pr a b, false, cs, h => by
    obtain ⟨v, r, e, h1, h2⟩ := h
    exact ⟨v, r, e, RV1.mono (fun cs => RX.shut hD a true) h1, RX.shut hD b false h2⟩
  | .un, false, cs, h => h
  | .dat _ _, false, cs, h => h.elim
  | .slx _ _, false, cs, h => h.elim
  | .nils, false, cs, h => h.elim
  | .emp, false, cs, h => h.elim
  | .row _, false, cs, h => h.elim
  | .sl _ _ _, false, cs, h => h.elim
  | .vptr _ _, false, cs, h => h.elim
  | .ptr _ _, false, cs, h => h.elim
  | .fn _ _, false, cs, h => h.elim
  | .nilfn, false, cs, h => h.elim
  | .hnd _ _, false, cs, h => h.elim
  | .mv _ _, false, cs, h => h.elim
  | .ifc _, false, cs, h => h.elim
  | .nilp, false, cs, h => h.elim
  | .nilm, false, cs, h => h.elim
  | .fns _, false, cs, h => h.elim
  | .fsel _ _, false, cs, h => h.elim
  | .pk _ _, false, cs, h => h.elim
  | .tup _, false, cs, h => h.elim
  | .dead, false, cs, h => h.elim
theorem RV.shut {A : Nat → Prop} {D : Nat} {x : Option (List Deferred)} {o : Obj} (hD : w.heap[D]? = some (.deferred x)) {v : AV} {u : Value} (h : RV w A H ρ v u) : RV (w.putObj D o) A H ρ v u := by
  unfold RV at h ⊢
  split at h
  · obtain ⟨vs, e, h⟩ := h
    exact ⟨vs, e, RX.shut hD _ false h⟩
  · exact RV1.mono (fun _ => RX.shut hD _ true) h
theorem StOk.shut {D : Nat} {x : Option (List Deferred)} {o : Obj} (h : StOk c w H ρ) (hD : w.heap[D]? = some (.deferred x)) (hA : ¬ Avoid c.X H ρ D) (hlo : c.w0.heap.size ≤ D) : StOk c (w.putObj D o) H ρ := by
  have hblk : ∀ {g : Nat} {E : TypeId} {cur : Array Value}, Blk w g E cur → Blk (w.putObj D o) g E cur := by
    rintro g E cur ⟨fr, h1, h2⟩
    exact ⟨fr, (World.putObj_heap_other (by rintro rfl; rw [hD] at h1; cases h1)).trans h1, h2⟩
  refine ⟨fun n => ?_, h.inj, ⟨h.fr.os, h.fr.tape, h.fr.output, by simpa using h.fr.size, fun b hb hS => (World.putObj_heap_other (by omega)).trans (h.fr.block b hb hS)⟩, h.old⟩
  have hob := h.obj n
  cases hn : ASt.obj H n with
  | gone => trivial
  | free => trivial
  | row E s xs fz =>
    rw [hn] at hob
    rcases hob with ⟨h1, h2⟩ | ⟨g, C, h1, h2, cur, E', h3, h3b, h4, h5, h6, h7⟩
    · exact .inl ⟨h1, h2⟩
    · exact .inr ⟨g, C, h1, h2, cur, E', hblk h3, h3b, h4, h5, h6, RepL.mono (fun x c => RepC.shut hD s) h7⟩
  | box v =>
    rw [hn] at hob
    obtain ⟨g, C, E, cur, h1, h2, h3, h4, h5, h6⟩ := hob
    exact ⟨g, C, E, cur, h1, h2, hblk h3, RX.shut hD v true h4, h5, h6⟩
  | oth y =>
    rw [hn] at hob
    rcases oth_cases hob with ⟨hz, E, Ei, s, rfl⟩ | ⟨g, C, hob, h1, h2, h3, h4, h5⟩
    · exact .inl ⟨hz, rfl⟩
    have hne : g ≠ D := by
      rintro rfl
      exact hA (.inr ⟨n, C, by rw [hn]; rfl, .own h1⟩)
    refine oth_mk ⟨g, C, hob, h1, h2, (World.putObj_heap_other hne).trans h3, ?_, fun hf b cap l he hm => ⟨(h5 hf b cap l he hm).1, (h5 hf b cap l he hm).2.1, by simpa using (h5 hf b cap l he hm).2.2⟩⟩
    cases y with
    | lp f key fr st =>
      obtain ⟨fn, T, ps, as, bd, k1, k1a, k1b, k2, k3, k4⟩ := h4
      exact ⟨fn, T, ps, as, bd, k1, k1a, k1b, k2, k3, fun i => RV.shut hD (k4 i)⟩
    | sit s pos => exact h4
    | mp k v ks vs m =>
      obtain ⟨es, clock, k1, k2⟩ := h4
      exact ⟨es, clock, k1, k2.all.mono fun x e h => ⟨h.1.mono fun _ => RepC.shut hD ks, h.2.1.mono fun _ => RepC.shut hD vs, h.2.2⟩, k2.apart, k2.short, k2.born⟩
    | mps k v E ks s m lent =>
      obtain ⟨es, clock, bl, k1, he, k2⟩ := h4
      refine ⟨es, clock, bl, k1, he, k2.all.mono fun x e p hp h => ⟨h.1.mono fun _ => RepC.shut hD ks, h.2.1, ?_⟩, k2.apart, k2.two, k2.short, k2.born⟩
      rcases h.2.2 with h | ⟨a1, a2, a3, a4, cur, D, b1, a5, a5b, a5c, a6⟩
      · exact .inl h
      · exact .inr ⟨a1, a2, a3, a4, cur, D, hblk b1, a5, a5b, a5c, RepL.mono (fun x c => RepC.shut hD s) a6⟩
    | mit k v ks vs m done =>
      obtain ⟨gm, es, clock, seen, k1, k2, k3, k4, k5⟩ := h4
      exact ⟨gm, es, clock, seen, k1, k2, (World.putObj_heap_other (by rintro rfl; rw [hD] at k3; cases k3)).trans k3, ⟨k4.all.mono fun x e h => ⟨h.1.mono fun _ => RepC.shut hD ks, h.2.1.mono fun _ => RepC.shut hD vs, h.2.2⟩, k4.apart, k4.short, k4.born⟩, k5⟩
    | vec E vs =>
      obtain ⟨cu, k1, k2, k3, k4, k5⟩ := h4
      refine ⟨cu, k1, k2, k3, k4, fun j v hv => ?_⟩
      obtain ⟨m1, y, m2, m3⟩ := k5 j v hv
      exact ⟨m1, y, m2, RX.shut hD v true m3⟩
    | nst E Ei s xss =>
      obtain ⟨cu, bl, k1, k2, k3⟩ := h4
      refine ⟨cu, bl, k1, k2, ⟨k3.all.mono fun xs v p hp hR => ?_, k3.two, k3.one, k3.short⟩⟩
      obtain ⟨a1, a2, a3, a4, cells, D, a5, a6, a7, a8, a9⟩ := hR
      exact ⟨a1, a2, a3, a4, cells, D, hblk a5, a6, a7, a8, RepL.mono (fun x c => RepC.shut hD s) a9⟩

theorem StkOk.shut {A : Nat → Prop} {D : Nat} {x : Option (List Deferred)} {o : Obj} (hD : w.heap[D]? = some (.deferred x)) : ∀ {fs : List (List AV)} {ts : List (Array Value)}, StkOk w A H ρ fs ts → StkOk (w.putObj D o) A H ρ fs ts
  | [], _, h => h
  | _ :: _, _, ⟨t, r, e, h1, h2⟩ => ⟨t, r, e, ⟨h1.size, fun i => RV.shut hD (h1.at_ i)⟩, StkOk.shut hD h2⟩

/-- A function is left: the marks are taken off. -/
theorem leave_ok {fn : Func} {RR : Ending → World → Prop} {u : FrameMode} (hu : u ≠ .run) {fin : World → Prop} {TS : Cal} {base : List Deferred} (tm : Array Value) (stc : List AV) :
    ∀ (Ds : List Nat) {w : World}, StOk c w H ρ → FrOk w (Avoid c.X H ρ) H ρ stc tm → StkOk w (Avoid c.X H ρ) H ρ st.stk TS.fr → (Ds ++ TS.ds).Nodup →
      (∀ D, D ∈ Ds ++ TS.ds → w.heap[D]? = some (.deferred (some [])) ∧ ¬ Avoid c.X H ρ D ∧ c.w0.heap.size ≤ D) →
      (∀ w', StOk c w' H ρ → FrOk w' (Avoid c.X H ρ) H ρ stc tm → StkOk w' (Avoid c.X H ρ) H ρ st.stk TS.fr → DefOk c w' (Avoid c.X H ρ) [] TS.ds [] → LeavesInM (Fe none) 0 P fn tm RR base u w') →
      LeavesInM (Fe none) 0 P fn tm RR (Ds.map mark ++ base) u w
  | [], w, h1, h2, h3, h4, h5, hf => hf w h1 h2 h3 ⟨[], rfl, h4, h5⟩
  | D :: Ds, w, h1, h2, h3, h4, h5, hf => by
    obtain ⟨k1, k2, k3⟩ := h5 D (by simp)
    refine ⟨hu, .inl ⟨D, w.putObj D (.deferred none), rfl, run_takeDeferred k1, ?_⟩⟩
    simp only [List.cons_append, List.nodup_cons] at h4
    refine leave_ok hu (fin := fin) tm stc Ds (h1.shut k1 k2 k3) ⟨h2.size, fun i => RV.shut k1 (h2.at_ i)⟩ (StkOk.shut k1 h3) h4.2 (fun D' hD' => ?_) hf
    obtain ⟨g1, g2, g3⟩ := h5 D' (List.mem_cons_of_mem _ hD')
    exact ⟨(World.putObj_heap_other (by rintro rfl; exact h4.1 hD')).trans g1, g2, g3⟩

/-- The ranges of all functions have their numbers. -/
def RangesOk (P : Program) : Prop := ∀ f x, x ∈ rangesOf (codeOf P f) → rangeAt P f x.1 = some x.2

theorem frame_pad {A : Nat → Prop} {vs : List AV} {us : List Value} (h : AllRV w A H ρ vs us) (n : Nat) : FrOk w A H ρ (vs ++ List.replicate n .dead) (us.toArray ++ Array.replicate n undef) := by
  refine ⟨by simp [h.length], fun i => ?_⟩
  have : ∀ (vs : List AV) (us : List Value) (i : Nat), AllRV w A H ρ vs us → i < vs.length → ∃ v u, vs[i]? = some v ∧ us[i]? = some u ∧ RV w A H ρ v u := by
    intro vs
    induction vs with
    | nil => intro us i _ hi; simp at hi
    | cons v vs ih =>
      intro us i h hi
      obtain ⟨u, r, rfl, h1, h2⟩ := h
      cases i with
      | zero => exact ⟨v, u, rfl, rfl, h1⟩
      | succ i =>
        obtain ⟨v', u', e1, e2, e3⟩ := ih r i h2 (by simpa using hi)
        exact ⟨v', u', by simpa using e1, by simpa using e2, e3⟩
  rcases Nat.lt_or_ge i vs.length with hi | hi
  · obtain ⟨v, u, e1, e2, e3⟩ := this vs us i h hi
    have a1 : (vs ++ List.replicate n AV.dead).getD i .dead = v := by simp only [List.getD, List.getElem?_append_left hi, e1, Option.getD_some]
    have a2 : (us.toArray ++ Array.replicate n undef).getD i undef = u := by
      have hi' : i < us.length := by rw [h.length]; exact hi
      have a3 : (us.toArray ++ Array.replicate n undef)[i]? = some u := by
        rw [← Array.getElem?_toList, Array.toList_append, List.toList_toArray, List.getElem?_append_left hi']; exact e2
      rw [Array.getD_eq_getD_getElem?, a3]; rfl
    rw [a1, a2]; exact e3
  · have a1 : (vs ++ List.replicate n AV.dead).getD i .dead = .dead := by
      simp only [List.getD, List.getElem?_append, List.getElem?_replicate]
      rw [if_neg (by omega)]
      split <;> rfl
    rw [a1]; exact trivial
/-- The other way. -/
theorem allRV_of_frame {A : Nat → Prop} {vs : List AV} {us : List Value} (h : FrOk w A H ρ vs us.toArray) : AllRV w A H ρ vs us := by
  have key : ∀ (vs : List AV) (us : List Value), us.length = vs.length → (∀ i, RV w A H ρ (vs.getD i .dead) (us.getD i undef)) → AllRV w A H ρ vs us := by
    intro vs
    induction vs with
    | nil => intro us hl _; cases us with | nil => rfl | cons _ _ => simp at hl
    | cons v vs ih =>
      intro us hl hi
      cases us with
      | nil => simp at hl
      | cons u us => exact ⟨u, us, rfl, hi 0, ih us (by simpa using hl) (fun i => hi (i + 1))⟩
  refine key vs us (by have := h.size; simpa using this) (fun i => ?_)
  have e : us.toArray.getD i undef = us.getD i undef := by simp [Array.getD_eq_getD_getElem?, List.getD]
  rw [← e]; exact h.at_ i
/-- The run of a function's body. -/
theorem body_ok (hΓ : GamOk P Γ) (hG : RangesOk P) {orc : Orcs} (hO : OrcsOk P orc) (hD : DrawnOk P Γ orc) {call : CallTo R} (hC : CallOk P call) {f : FuncId} {fn : Func} (hf : P.funcs[f]? = some fn) {hint : Hint} {F : Nat} {args : List AV} {kk : List AV → ASt → Option R} {kx : TypeId → ASt → Option R} {r : R}
    (hx : runBody Γ orc call f hint F fn args st kk kx = some r) : fn.body.isNone = false ∧ ∀ (c : Ctx P) (w : World) (ρ : Rho) (TS : Cal) (tm : Array Value) (us : List Value), RunOk c w ρ st tm TS → AllRV w (Avoid c.X st.heap ρ) st.heap ρ args us →
    ∀ RR : Ending → World → Prop, (∀ vs us v st' w' ρ', kk vs st' = some r → RunOk c w' ρ' st' tm TS → AllRV w' (Avoid c.X st'.heap ρ') st'.heap ρ' vs us → IsPacked us v → (∀ v, v ∈ vs → v.isTup = false) → RR (.returned v) w') →
      (∀ t st' w' ρ', kx t st' = some r → RunOk c w' ρ' st' tm TS → RR (.panicked (panicked t)) w') → Calls P f us.toArray w RR := by
  unfold runBody at hx
  split at hx
  · cases hx
  · rename_i cd hb
    obtain ⟨hle, hx⟩ := ite_some hx
    refine ⟨by rw [hb]; rfl, fun c w ρ TS tm us hrun hargs RR hRR hRX => ?_⟩
    have hlen := hargs.length
    have hcur : ∀ (vs : List AV) (us : List Value) (n : Nat), AllRV w (Avoid c.X st.heap ρ) st.heap ρ vs us → FrOk w (Avoid c.X st.heap ρ) st.heap ρ (vs ++ List.replicate n .dead) (us.toArray ++ Array.replicate n undef) := fun vs us n h => frame_pad h n
    have hcode : codeOf P f = cd := by simp [codeOf, hf, hb]
    refine calls_fe (rd := none) (n := 0) (callsIn_of_wp_marks hf hb trivial ?_ rfl)
    have hsz : us.toArray.size = args.length := by simp [hlen]
    rw [hsz]
    refine exec_ok (TS := ⟨tm :: TS.fr, TS.ds, []⟩) hΓ hO hD hC (head_ok _ _) cd hx (fun x hx => ⟨rfl, hG f x (by rw [hcode]; exact hx)⟩) ⟨hrun.ok, hcur args us _ hargs, hrun.stk, hrun.defers⟩ (fun e st' a' w' ρ' hk h' => ?_)
    have fin : (match st'.stk with
          | c0 :: stk => match resAVs Γ st'.heap st'.cur fn.results.toList with
            | some vs => kk vs { cur := c0, stk := stk, heap := st'.heap }
            | none => none
          | [] => none) = some r → LeavesInM (Fe none) 0 P fn a'.tmps RR a'.defers .returning w' := by
      intro hk
      split at hk
      · rename_i c0 stk hs
        split at hk
        · rename_i vs hr
          obtain ⟨Ds, d1, d2, d3⟩ := h'.defers
          rw [d1]
          refine leave_ok (fin := fun _ => True) (by simp) a'.tmps st'.cur Ds h'.ok h'.cur h'.stk d2 d3 (fun w2 k1 k2 k3 k4 => ?_)
          obtain ⟨v, us', g1, g2, g3, g4⟩ := results_ok hΓ k1 k2 hr
          rw [hs] at k3
          exact ⟨v, g1, hRR vs us' v _ w2 ρ' hk ⟨k1, k3, k4⟩ g2 g3 g4⟩
        · cases hk
      · cases hk
    cases e with
    | normal => exact fin hk
    | ret => exact fin hk
    | exit id => cases hk
    | panic t =>
      simp only at hk
      split at hk
      · rename_i c0 stk hs
        obtain ⟨Ds, d1, d2, d3⟩ := h'.defers
        show LeavesInM (Fe none) 0 P fn a'.tmps RR a'.defers (.panicking (panicked t)) w'
        rw [d1]
        refine leave_ok (fin := fun _ => True) (by simp) a'.tmps st'.cur Ds h'.ok h'.cur h'.stk d2 d3 (fun w2 k1 k2 k3 k4 => ?_)
        rw [hs] at k3
        exact hRX t _ w2 ρ' hk ⟨k1, k3, k4⟩
      · cases hk

/-- What a closure that recovers is known to do. -/
def rcvVal : Option Bool → Value
  | none => .slice none 0 0
  | some b => .bool b
def RunSto (P : Program) (caps : List Value) : List (Nat × TypeId × Option Bool) → World → World → Prop
  | [], w, w' => w' = w
  | (i, t, x) :: r, w, w' => ∃ w1, (Instr.storeAt t (caps.getD i undef) (rcvVal x)).run P w = .ok () w1 ∧ RunSto P caps r w1 w'
structure RecOk (P : Program) (rc : Rcv) : Prop where
  fn : FnOk P rc.clo
  ret : ∀ (caps : Array Value) (w : World), caps.size = rc.ncap → CallsDIn (Fe none) 0 P rc.clo caps .returning w fun e u' w' => (∃ v, e = .returned v) ∧ u' = .returning ∧ w' = w
  pan : ∀ (caps : Array Value) (w : World), caps.size = rc.ncap → ∃ ob, ∀ w', RunSto P caps.toList rc.sto (w.alloc ob) w' → CallsDIn (Fe none) 0 P rc.clo caps (.panicking (panicked rc.pan)) w fun e u' w'' => (∃ v, e = .returned v) ∧ settle u' = .returning ∧ w'' = w'
/-- What is said of the functions that recover is so. -/
def RcvOk (P : Program) (rcv : FuncId → Option Rcv) : Prop := ∀ f rc, rcv f = some rc → RecOk P rc
theorem rcvOk_none {P : Program} : RcvOk P fun _ => none := fun _ _ h => by cases h

theorem rcv_rv {A : Nat → Prop} (x : Option Bool) : RV w A H ρ (rcvAV x) (rcvVal x) := by
  cases x with
  | none => exact (rfl : [Value.slice none 0 0] = [Value.slice none 0 0])
  | some b => exact RV.mk_bool b
theorem AllRV.get {A : Nat → Prop} : ∀ {vs : List AV} {us : List Value}, AllRV w A H ρ vs us → ∀ i, RV w A H ρ (vs.getD i .dead) (us.getD i undef)
  | [], us, h, i => by simp only [AllRV] at h; subst h; exact trivial
  | v :: vs, us, ⟨u, r, e, h1, h2⟩, i => by
    subst e
    cases i with
    | zero => exact h1
    | succ i => exact AllRV.get h2 i
theorem AllRV.frame {A : Nat → Prop} {vs : List AV} {us : List Value} (h : AllRV w A H ρ vs us) : FrOk w A H ρ vs us.toArray := by
  refine ⟨by simp [h.length], fun i => ?_⟩
  have e : us.toArray.getD i undef = us.getD i undef := by simp [Array.getD_eq_getD_getElem?, List.getD]
  rw [e]; exact h.get i
theorem recStore_ok (hΓ : GamOk P Γ) : ∀ (sto : List (Nat × TypeId × Option Bool)) {w : World} {H H' : List AObj} {cs : List AV} {caps : List Value}, StOk c w H ρ → AllRV w (Avoid c.X H ρ) H ρ cs caps → recStore Γ sto cs H = some H' →
    ∃ w', RunSto P caps sto w w' ∧ Tr c w H ρ w' H' ρ
  | [], w, H, H', cs, caps, h, _, hx => by cases hx; exact ⟨w, rfl, Tr.refl h⟩
  | (i, t, x) :: r, w, H, H', cs, caps, h, hc, hx => by
    simp only [recStore] at hx
    split at hx
    · rename_i v U ha
      obtain ⟨_, w1, h1, T1⟩ := store_ok hΓ h (hc.get i) (rcv_rv x) ha
      obtain ⟨w', h2, T2⟩ := recStore_ok hΓ r T1.ok (hc.mono fun _ _ => T1.rv) hx
      exact ⟨w', ⟨w1, h1, h2⟩, T1.trans T2⟩
    · cases hx

theorem deferClo_ok {A : Nat → Prop} {d : Oper} {cur : List AV} {a : Act} {g : FuncId} {cs : List AV} (h : deferClo d cur = some (g, cs)) (hf : FrOk w A H ρ cur a.tmps) :
    ∃ vs : List Value, (∀ w', (execOp a.eval d).run P w' = .ok (.defer { target := .fn (.func g) vs.toArray, args := #[] }) w') ∧ AllRV w A H ρ cs vs := by
  unfold deferClo at h
  split at h
  · rename_i f args ts hop
    obtain ⟨he, h⟩ := ite_some h
    split at h
    · rename_i g0 caps hv
      rw [Option.map_eq_some_iff] at h
      obtain ⟨cs', hu, h⟩ := h
      cases h
      have hfv := opnd_ok hf f
      rw [hv] at hfv
      obtain ⟨vs, hcs, hr⟩ := (hfv : ∃ vs : List Value, [a.eval f] = [Value.func (.func g) #[] vs.toArray] ∧ RX w A H ρ caps false vs)
      simp only [List.cons.injEq, and_true] at hcs
      have hargs : args = #[] := by simpa using he
      subst hargs
      exact ⟨vs, fun w' => by simp [execOp, hop, resolve, hcs, Deferred.ofValue], AllRV.unchain hu hr⟩
    · cases h
  · cases h

/-- The run of the body of a function that recovers. -/
theorem rec_ok (hΓ : GamOk P Γ) (hG : RangesOk P) {orc : Orcs} (hO : OrcsOk P orc) (hD : DrawnOk P Γ orc) {call : CallTo R} (hC : CallOk P call) {f : FuncId} {fn : Func} {cd : Code} (hf : P.funcs[f]? = some fn) (hb : fn.body = some cd) {hint : Hint} {F : Nat} {rc : Rcv} (hR : RecOk P rc) {args : List AV} {kk : List AV → ASt → Option R} {r : R}
    (hx : runRec Γ orc call (exec Γ orc call f (atHeads Γ (keepOf hint fn cd) hint) F) fn cd rc args st kk = some r) : ∀ (c : Ctx P) (w : World) (ρ : Rho) (TS : Cal) (tm : Array Value) (us : List Value), RunOk c w ρ st tm TS → AllRV w (Avoid c.X st.heap ρ) st.heap ρ args us →
    ∀ RR : Ending → World → Prop, (∀ vs us v st' w' ρ', kk vs st' = some r → RunOk c w' ρ' st' tm TS → AllRV w' (Avoid c.X st'.heap ρ') st'.heap ρ' vs us → IsPacked us v → (∀ v, v ∈ vs → v.isTup = false) → RR (.returned v) w') → Calls P f us.toArray w RR := by
  unfold runRec at hx
  split at hx
  · cases hx
  rename_i a id ops o d b hd
  obtain ⟨rfl, hops, ho, hdg, hdd⟩ := deferOf_is hd
  obtain ⟨hle, hx⟩ := ite_some hx
  intro c w ρ TS tm us hrun hargs RR hRR
  have hlen := hargs.length
  have hcode : codeOf P f = .seq a (.seq (.region id ops false) b) := by simp [codeOf, hf, hb]
  have hcur : FrOk w (Avoid c.X st.heap ρ) st.heap ρ (args ++ List.replicate (fn.ntmps - args.length) .dead) (us.toArray ++ Array.replicate (fn.ntmps - args.length) undef) := frame_pad hargs _
  refine calls_fe (rd := none) (n := 0) (callsIn_of_wp_marks hf hb trivial ?_ rfl)
  have hsz : us.toArray.size = args.length := by simp [hlen]
  rw [hsz]
  refine wpIn_seq (exec_ok (TS := ⟨tm :: TS.fr, TS.ds, []⟩) hΓ hO hD hC (head_ok _ _) a hx (fun x hx => ⟨rfl, hG f x (by rw [hcode]; exact List.mem_append_left _ hx)⟩) ⟨hrun.ok, hcur, hrun.stk, hrun.defers⟩ (fun e st1 a1 w1 ρ1 hk h1 => ?_))
  cases e with
  | exit i => cases hk
  | ret => cases hk
  | panic t => cases hk
  | normal =>
  simp only at hk
  refine wpIn_seq (wpIn_region_list ?_)
  rw [hops]
  unfold wpListIn
  rw [if_pos (by simp [Region.wanted, ho])]
  refine xopP_ok hΓ hO hC hk h1 (fun st2 a2 w2 ρ2 hk2 h2 => ?_) (fun t st' a' w' ρ' hk _ => by cases hk)
  split at hk2
  case h_2 => cases hk2
  rename_i g cs hcl
  rcases bif_some' hk2 with ⟨hbb, hkb⟩ | ⟨_, hkb⟩
  case inr => cases hkb
  simp only [Bool.and_eq_true] at hbb
  have hg : g = rc.clo := Nat.eq_of_beq_eq_true hbb.1
  have hnc : cs.length = rc.ncap := Nat.eq_of_beq_eq_true hbb.2
  subst hg
  obtain ⟨vs, hdrun, hvs⟩ := deferClo_ok (P := P) hcl h2.cur
  unfold wpListIn
  rw [if_pos (by simp [Region.wanted, hdg])]
  refine ⟨fun _ _ => trivial, ?_⟩
  rw [show d.semAt (Fe none).round a2.eval = execOp a2.eval d from rfl, hdrun, Oper.uponIn_defer, hdd]
  show (Code.wpIn (Fe none) 0 P b _ _ w2)
  obtain ⟨Ds, d1, d2, d3⟩ := h2.defers
  rw [List.append_nil] at d1
  let dd : Deferred := { target := .fn (.func rc.clo) vs.toArray, args := #[] }
  have hsz2 : vs.toArray.size = rc.ncap := by simp [hvs.length, hnc]
  refine exec_ok (TS := ⟨vs.toArray :: tm :: TS.fr, Ds ++ TS.ds, dd :: Ds.map mark⟩) hΓ hO hD hC (head_ok _ _) b hkb (fun x hx => ⟨rfl, hG f x (by rw [hcode]; exact List.mem_append_right _ (List.mem_append_right _ hx))⟩)
    ⟨h2.ok, h2.cur, ⟨_, _, rfl, hvs.frame, h2.stk⟩, ⟨[], by show dd :: a2.defers = _; rw [d1]; rfl, d2, d3⟩⟩ (fun e st3 a3 w3 ρ3 hk3 h3 => ?_)
  unfold recFin at hk3
  split at hk3
  case h_2 => cases hk3
  rename_i cs3 c0 stk hs3
  -- the callers' frames
  have hstk := h3.stk
  rw [hs3] at hstk
  obtain ⟨Ds3, e1, e2, e3⟩ := h3.defers
  -- behind the closure
  have last : ∀ {w4 : World} {H4 : List AObj}, recEnd Γ fn H4 st3.cur c0 stk kk = some r → ∀ (hdef : DefOk c w4 (Avoid c.X H4 ρ3) [] (Ds ++ TS.ds) []), StOk c w4 H4 ρ3 → FrOk w4 (Avoid c.X H4 ρ3) H4 ρ3 st3.cur a3.tmps → StkOk w4 (Avoid c.X H4 ρ3) H4 ρ3 (c0 :: stk) (tm :: TS.fr) →
      LeavesInM (Fe none) 0 P fn a3.tmps RR (Ds.map mark) .returning w4 := by
    intro w4 H4 hend hdef hok hfr hst
    unfold recEnd at hend
    split at hend
    · rename_i vs' hres
      obtain ⟨Dz, z1, z2, z3⟩ := hdef
      have hz : Dz = [] := by cases Dz with | nil => rfl | cons _ _ => simp at z1
      subst hz
      have := leave_ok (P := P) (c := c) (H := H4) (ρ := ρ3) (st := { cur := [], stk := c0 :: stk, heap := H4 }) (fn := fn) (RR := RR) (u := .returning) (by simp) (fin := fun _ => True) (TS := ⟨tm :: TS.fr, TS.ds, []⟩) (base := []) a3.tmps st3.cur Ds hok hfr hst (by simpa using z2) (by simpa using z3) (fun w5 k1 k2 k3 k4 => by
        obtain ⟨v, us', g1, g2, g3, g4⟩ := results_ok hΓ k1 k2 hres
        exact ⟨v, g1, hRR vs' us' v _ w5 ρ3 hend ⟨k1, k3, k4⟩ g2 g3 g4⟩)
      rwa [List.append_nil] at this
    · cases hend
  have fin : ∀ u : FrameMode, u ≠ .run → (∀ w4, StOk c w4 st3.heap ρ3 → FrOk w4 (Avoid c.X st3.heap ρ3) st3.heap ρ3 st3.cur a3.tmps → StkOk w4 (Avoid c.X st3.heap ρ3) st3.heap ρ3 (cs3 :: c0 :: stk) (vs.toArray :: tm :: TS.fr) → DefOk c w4 (Avoid c.X st3.heap ρ3) [] (Ds ++ TS.ds) [] →
      LeavesInM (Fe none) 0 P fn a3.tmps RR (dd :: Ds.map mark) u w4) → LeavesInM (Fe none) 0 P fn a3.tmps RR a3.defers u w3 := by
    intro u hu hl
    rw [e1]
    exact leave_ok (P := P) (c := c) (H := st3.heap) (ρ := ρ3) (st := { cur := [], stk := cs3 :: c0 :: stk, heap := st3.heap }) (TS := ⟨vs.toArray :: tm :: TS.fr, Ds ++ TS.ds, []⟩) hu (fin := fun _ => True) a3.tmps st3.cur Ds3 h3.ok h3.cur hstk e2 e3 (fun w4 k1 k2 k3 k4 => hl w4 k1 k2 k3 k4)
  have norm : recEnd Γ fn st3.heap st3.cur c0 stk kk = some r → LeavesInM (Fe none) 0 P fn a3.tmps RR a3.defers .returning w3 := by
    intro hend
    refine fin .returning (by simp) (fun w4 k1 k2 k3 k4 => ?_)
    refine ⟨by simp, .inr ⟨fun e => (by cases e), .func rc.clo, vs.toArray, rc.clo, vs.toArray, rfl, ?_, fun _ _ => trivial, ?_⟩⟩
    · simp [invoke, dd, run_callFunc hR.fn]
    · refine (hR.ret vs.toArray w4 hsz2).mono (fun e u' w' he => ?_)
      obtain ⟨⟨v, rfl⟩, rfl, rfl⟩ := he
      obtain ⟨t, r', q1, _, q2⟩ := k3
      cases q1
      exact last (w4 := w') (H4 := st3.heap) hend k4 k1 k2 q2
  cases e with
  | normal => exact norm hk3
  | ret => exact norm hk3
  | exit i => cases hk3
  | panic t =>
    simp only at hk3
    rcases bif_some' hk3 with ⟨ht, hk4⟩ | ⟨_, hk4⟩
    case inr => cases hk4
    have ht : t = rc.pan := Nat.eq_of_beq_eq_true ht
    subst ht
    clear hk3
    split at hk4
    case h_2 => cases hk4
    rename_i H' hsto
    show LeavesInM (Fe none) 0 P fn a3.tmps RR a3.defers (.panicking (panicked rc.pan)) w3
    refine fin _ (by simp) (fun w4 k1 k2 k3 k4 => ?_)
    refine ⟨by simp, .inr ⟨fun e => (by cases e), .func rc.clo, vs.toArray, rc.clo, vs.toArray, rfl, ?_, fun _ _ => trivial, ?_⟩⟩
    · simp [invoke, dd, run_callFunc hR.fn]
    · obtain ⟨ob, hpan⟩ := hR.pan vs.toArray w4 hsz2
      obtain ⟨t, r', q1, q0, q2⟩ := k3
      cases q1
      have T0 := Tr.alloc0 k1 ob
      have hcs3 : AllRV w4 (Avoid c.X st3.heap ρ3) st3.heap ρ3 cs3 vs := allRV_of_frame q0
      obtain ⟨w5, hrs, T1⟩ := recStore_ok hΓ rc.sto T0.ok (hcs3.mono fun _ _ => T0.rv) hsto
      have T := T0.trans T1
      refine (hpan w5 hrs).mono (fun e u' w' he => ?_)
      obtain ⟨⟨v, rfl⟩, hu, rfl⟩ := he
      show LeavesInM (Fe none) 0 P fn a3.tmps RR (Ds.map mark) (settle u') w'
      rw [hu]
      exact last (w4 := w') (H4 := H') hk4 (k4.tr T) T.ok (k2.mono fun _ _ => T.rv) (q2.mono fun _ _ => T.rv)

/-- The parameters of a round. -/
theorem setAll_ok {A : Nat → Prop} : ∀ (ps : List Nat) {cur : List AV} {t : Array Value} {vs : List AV} {us : List Value}, FrOk w A H ρ cur t → AllRV w A H ρ vs us → FrOk w A H ρ (setAll cur ps vs) ((ps.zip us).foldl (fun t (p, v) => t.setIfInBounds p v) t)
  | [], cur, t, vs, us, h, _ => by cases vs <;> exact h
  | p :: ps, cur, t, [], us, h, hv => by simp only [AllRV] at hv; subst hv; exact h
  | p :: ps, cur, t, v :: vs, us, h, ⟨u, r, e, h1, h2⟩ => by
    subst e
    have hp := FrOk.put (a := { tmps := t, defers := [] }) (d := some p) h h1
    rw [putDst_some] at hp
    exact setAll_ok ps hp h2

theorem roundSet_some {s s' : LSt} {st2 : ASt} (h : roundSet s s' st = some st2) : ∃ o rest f key fr, st.stk = [.hnd .yield o] :: rest ∧ ASt.obj st.heap o = .oth (.lp f key fr s) ∧ st2 = { st with heap := st.heap.set o (.oth (.lp f key fr s')) } := by
  unfold roundSet at h
  split at h
  · rename_i o rest hs
    split at h
    · rename_i f key fr t ho
      obtain ⟨ht, h⟩ := ite_some h
      simp only [Option.some.injEq] at h
      exact ⟨o, rest, f, key, fr, hs, by rw [← ht]; exact ho, h.symm⟩
    · cases h
  · cases h

/-- The loop's record is changed. -/
theorem roundSet_ok {s s' : LSt} {st2 : ASt} {l : Nat} (hx : roundSet s s' st = some st2) (h : StRel c w ρ st a TS) (hT : ∃ r, TS.fr = #[.func (.yield l) #[] #[]] :: r) :
    ∃ (rec : Loop), w.heap[l]? = some (.loop rec) ∧ rec.state = s.state ∧ rec.pending = s.pend ∧ StRel c (w.putObj l (.loop { rec with state := s'.state, pending := s'.pend })) ρ st2 a TS ∧ ∃ rest, st.stk = rest ∧ st2.stk = rest := by
  obtain ⟨o, rest, f, key, fr, hs, ho, rfl⟩ := roundSet_some hx
  obtain ⟨r0, hT⟩ := hT
  have hstk := h.stk
  rw [hs, hT] at hstk
  obtain ⟨t, r', e, h1, h2⟩ := hstk
  cases e
  obtain ⟨C, hr⟩ := yield_frame h1 (by rw [ho]; rfl)
  have hob := h.ok.obj o
  rw [ho] at hob
  obtain ⟨g, C', hob', g1, g2, g3, ⟨fn, T, ps, as, bd, g4, g4a, g4b, g5, g6, g7⟩, _⟩ := hob
  rw [hr] at g1; cases g1
  rw [g5] at g3
  have T := Tr.writeX h.ok rfl ho rfl hr (w' := w.putObj l (.loop { state := s'.state, pending := s'.pend, fn := fn, tmps := T, params := ps, assign := as, body := bd, defers := C })) (World.putObj_heap_same (Array.getElem?_eq_some_iff.1 g3).1) (fun b hb => World.putObj_heap_other hb) (by simp) rfl rfl rfl
    (x' := .lp f key fr s') ⟨fn, T, ps, as, bd, g4, g4a, g4b, rfl, g6, g7⟩
  exact ⟨_, g3, rfl, rfl, h.heap T, _, rfl, rfl⟩

/-- The run of a round. -/
theorem round_ok (hΓ : GamOk P Γ) {orc : Orcs} (hO : OrcsOk P orc) (hD : DrawnOk P Γ orc) {call : CallTo R} (hC : CallOk P call) {hint : FuncId → Hint} {F : Nat} {o : Nat} {args : List AV} {kk : AV → ASt → Option R} {r : R}
    (hx : runRound P Γ orc call hint F o args st kk = some r) : (ASt.obj st.heap o).live = true ∧ ∀ (c : Ctx P) w ρ (tm : Array Value) (TS : Cal) (us : List Value) (l C : Nat), RunOk c w ρ st tm TS → AllRV w (Avoid c.X st.heap ρ) st.heap ρ args us → ρ o = some (l, C) →
    ∀ (rd : Option Nat) (RR : Ending → World → Prop), (∀ v val st' w' ρ', kk v st' = some r → RunOk c w' ρ' st' tm TS → RV w' (Avoid c.X st'.heap ρ') st'.heap ρ' v val → RR (.returned val) w') →
      ∃ fn tmps assign body, (Instr.yield l us.toArray).run P w = .ok (.round l fn tmps assign body) w ∧ RoundIn (Fe rd) 0 P l fn tmps assign body w RR := by
  unfold runRound at hx
  split at hx
  · rename_i f key fr ho
    refine ⟨by rw [ho]; rfl, fun c w ρ tm TS us l C hrun hargs hr rd RR hRR => ?_⟩
    have hob := hrun.ok.obj o
    rw [ho] at hob
    obtain ⟨g, C', hob', g1, g2, g3, ⟨fn, T, ps, as, bd, g4, g4a, g4b, g5, g6, g7⟩, _⟩ := hob
    rw [hr] at g1; cases g1
    rw [g5] at g3
    split at hx
    · rename_i fn' ps' as' bd' hf hat
      rw [hat] at g4; cases g4
      obtain ⟨⟨hsz, _⟩, hx⟩ := ite_some hx
      refine ⟨_, _, _, _, run_yield g3 (by rw [List.size_toArray, hargs.length]; exact hsz), ?_⟩
      have hy : RV w (Avoid c.X st.heap ρ) st.heap ρ (.hnd .yield o) (.func (.yield l) #[] #[]) := RV.one rfl ((.inr ⟨by rw [ho]; rfl, _, _, hr, rfl⟩ : HndR (ASt.obj st.heap o) (ρ o) .yield [.func (.yield l) #[] #[]]))
      have hcur : FrOk w (Avoid c.X st.heap ρ) st.heap ρ (setAll fr ps.toList args) ((ps.zip us.toArray).foldl (fun tmps (t, a) => tmps.setIfInBounds t a) T) := by
        have := setAll_ok ps.toList ⟨g6.symm, g7⟩ hargs
        have e : (ps.zip us.toArray).foldl (fun tmps (t, a) => tmps.setIfInBounds t a) T = (ps.toList.zip us).foldl (fun t (p, v) => t.setIfInBounds p v) T := by
          rw [← Array.foldl_toList]; simp
        rw [e]; exact this
      refine roundIn_of_wpIn (F := Fe rd) trivial ?_
      refine exec_ok (rd := some l) (TS := ⟨#[.func (.yield l) #[] #[]] :: tm :: TS.fr, TS.ds, []⟩) hΓ hO hD hC (head_ok _ _) as hx (fun x hx => by rw [g4a] at hx; cases hx)
        ⟨hrun.ok, hcur, ⟨_, _, rfl, ⟨rfl, fun i => ?_⟩, hrun.stk⟩, hrun.defers⟩ (fun e st' a' w' ρ' hk h' => ?_)
      · cases i with
        | zero => exact hy
        | succ i => simp only [List.getD]; exact trivial
      cases e with
      | normal =>
        simp only at hk
        split at hk
        · rename_i st2 hs2
          obtain ⟨rec, k1, k2, k3, k4, _⟩ := roundSet_ok hs2 h' ⟨_, rfl⟩
          refine ⟨_, run_beginRound k1 k2, ?_⟩
          have k4 : StRel c (w'.putObj l (.loop { rec with state := .busy })) ρ' st2 a' ⟨#[.func (.yield l) #[] #[]] :: tm :: TS.fr, TS.ds, []⟩ := by
            have e : ({ rec with state := LoopState.busy, pending := none } : Loop) = { rec with state := .busy } := by
              cases rec; simp only at k3; subst k3; rfl
            rw [← e]; exact k4
          refine exec_ok (rd := some l) hΓ hO hD hC (head_ok _ _) bd hk (fun x hx => by rw [g4b] at hx; cases hx) k4 (fun e st3 a3 w3 ρ3 hk3 h3 => ?_)
          have fin : ∀ e : AExit, roundOut e st3 kk = some r → (∀ t, e ≠ .panic t) → ∃ v w4, (Instr.endRound l e.toC).run P w3 = .ok v w4 ∧ RR (.returned v) w4 := by
            intro e hk hne
            unfold roundOut at hk
            split at hk
            · rename_i st4 hs4
              obtain ⟨rec4, m1, m2, m3, m4, _, m5, m6⟩ := roundSet_ok hs4 h3 ⟨_, rfl⟩
              split at hk
              · rename_i f0 c0 stk hst
                have hstk := m4.stk
                rw [hst] at hstk
                obtain ⟨t, r', e1, _, h2⟩ := hstk
                cases e1
                refine ⟨_, _, run_endRound e.toC m1, ?_⟩
                have e2 : (w3.putObj l (.loop { rec4 with state := if e.toC.isNone then .ready else .done, pending := e.toC })) = w3.putObj l (.loop { rec4 with state := (match e with | .normal => LSt.ready | e => .done e).state, pending := (match e with | .normal => LSt.ready | e => .done e).pend }) := by
                  cases e with
                  | panic t => exact absurd rfl (hne t)
                  | _ => rfl
                rw [e2]
                refine hRR _ _ _ _ ρ3 hk ⟨m4.ok, h2, m4.defers.drop⟩ ?_
                cases e with
                | panic t => exact absurd rfl (hne t)
                | normal => exact RV.mk_bool _
                | exit id => exact RV.mk_bool _
                | ret => exact RV.mk_bool _
              · cases hk
            · cases hk
          cases e with
          | normal => exact fin .normal hk3 (by simp)
          | exit id => exact fin (.exit id) hk3 (by simp)
          | ret => exact fin .ret hk3 (by simp)
          | panic t => cases hk3
        · cases hk
      | exit id => cases hk
      | ret => cases hk
      | panic t => cases hk
    · cases hx
  · cases hx

/-- No function of the program's own is runtime.NumGoroutine. -/
def NoNum (P : Program) : Prop := ∀ (f : Nat) (fn : Func), P.funcs[f]? = some fn → fn.body.isNone = false → (fn.name == "runtime.NumGoroutine") = false

theorem acall_ok (hN : NoNum P) {B : Book} (hΓ : GamOk P B.Γ) (hG : RangesOk P) (hO : OrcsOk P B.orc) (hD : DrawnOk P B.Γ B.orc) (hR : RcvOk P B.rcv) (F : Nat) : ∀ d : Nat, CallOk P (acall (R := R) P B F d)
  | 0 => ⟨fun f as st kk kx r h => (by cases h), fun o as st kk kx r h => (by cases h)⟩
  | d + 1 => by
    refine ⟨fun f as st kk kx r h => ?_, fun o as st kk kx r h => ?_⟩
    · simp only [acall] at h
      split at h
      · rename_i fn hf
        split at h
        · rename_i rc cd hrc hbd
          have hb : fn.body.isNone = false := by rw [hbd]; rfl
          refine ⟨⟨fn, hf, hN f fn hf hb, hb⟩, fun c w ρ tm TS us h1 h3 RR hRR hRX => ?_⟩
          exact rec_ok hΓ hG hO hD (acall_ok hN hΓ hG hO hD hR F d) hf hbd (hR f rc hrc) h c w ρ TS tm us h1 h3 RR (fun vs us' v st' w' ρ' k1 k2 k4 k5 k6 => hRR _ v st' w' ρ' k1 k2 (packed_rv k6 k4 k5))
        obtain ⟨hb, hrest⟩ := body_ok hΓ hG hO hD (acall_ok hN hΓ hG hO hD hR F d) hf h
        refine ⟨⟨fn, hf, hN f fn hf hb, hb⟩, fun c w ρ tm TS us h1 h3 RR hRR hRX => ?_⟩
        exact hrest c w ρ TS tm us h1 h3 RR (fun vs us' v st' w' ρ' k1 k2 k4 k5 k6 => hRR _ v st' w' ρ' k1 k2 (packed_rv k6 k4 k5)) hRX
      · cases h
    · simp only [acall] at h
      exact round_ok hΓ hO hD (acall_ok hN hΓ hG hO hD hR F d) h

/-- What a run of the machine says of a function. -/
theorem contract_of_run (hN : NoNum P) {B : Book} (hΓ : GamOk P B.Γ) (hG : RangesOk P) (hO : OrcsOk P B.orc) (hD : DrawnOk P B.Γ B.orc) (hR : RcvOk P B.rcv) {f : FuncId} {k : Orc} {ms : List PM} (hthere : ∃ fn, P.funcs[f]? = some fn ∧ fn.body.isNone = false)
    (h : ∀ bs rs, k.fn bs = some (true, rs) → bs.map BV.mode = k.ps → ∃ F d, ∀ kend : List BV → Option Unit, kend rs = some () → runFn P B F d f bs ms kend = some ()) : Contract P f k := by
  classical
  obtain ⟨fn, hf, hfb⟩ := hthere
  refine ⟨⟨fn, hf, hN f fn hf hfb, hfb⟩, fun bs rs hk hm c ρ vals hst hv RR hRR => ?_⟩
  obtain ⟨F, d, hrun⟩ := h bs rs hk hm
  have hrun := hrun (fun bs' => if bs' = rs then some () else none) (if_pos rfl)
  unfold runFn at hrun
  rw [hf] at hrun
  simp only [ofArgs_eq, List.nil_append, List.length_nil] at hrun
  refine (body_ok hΓ hG hO hD (acall_ok hN hΓ hG hO hD hR F d) hf hrun).2 c c.w0 ρ ⟨[], [], []⟩ #[] vals ⟨hst, ⟨#[], [], rfl, ⟨rfl, fun i => by simp [List.getD]; exact trivial⟩, rfl⟩, ⟨[], rfl, List.nodup_nil, fun D hD => by cases hD⟩⟩ hv RR (fun vs us v st' w' ρ' k1 k2' k4 k5 _ => ?_) (fun t st' w' ρ' k1 _ => by cases k1)
  have k2 := k2'.ok
  split at k1
  · rename_i bs' U ha
    obtain ⟨ho, k1⟩ := ite_some k1
    obtain ⟨hb, _⟩ := ite_some k1
    subst hb
    have hA := toArgs_is ms vs ha
    obtain ⟨g1, g2⟩ := hand_core (c2 := c) k2 ha ho k4 (fun b hb => .inl hb) (fun o _ g C hl hr => (k2.lt hl (.own hr)).2.notX) (fun o _ g C hl hr => (k2.lt hl (.own hr)).2) k2.fr k2.old
    exact hRR v us w' _ g1 g2 k5
  · cases k1
end
end Go.AI

/- What an operation looks at. -/
noncomputable section
namespace Go.AI
open Go Go.RowKit

/-- Two heaps hold the same at some places. -/
def SameAt (H H' : List AObj) (l : List Nat) : Prop := ∀ n, n ∈ l → ASt.obj H n = ASt.obj H' n

section
variable {Γ : Gam} {H H' : List AObj} {cur cur' : List AV} {nid : Nat}

theorem SameAt.mono {l l' : List Nat} (h : SameAt H H' l) (hl : ∀ n, n ∈ l' → n ∈ l) : SameAt H H' l' := fun n hn => h n (hl n hn)

theorem elemsOf_loc {v : AV} (h : SameAt H H' v.refs) : elemsOf H v = elemsOf H' v := by
  cases v with
  | row o => simp only [elemsOf, h o (by simp [AV.refs])]
  | sl o i n => simp only [elemsOf, h o (by simp [AV.refs])]
  | dat s x => cases s <;> rfl
  | _ => rfl
theorem elemsAs_loc {s : Sch} {v : AV} (h : SameAt H H' v.refs) : elemsAs H s v = elemsAs H' s v := by
  have := elemsOf_loc h
  cases v <;> simp only [elemsAs, this]
theorem srcElems_loc {s : Sch} {v : AV} (h : SameAt H H' v.refs) : srcElems H s v = srcElems H' s v := by
  unfold srcElems
  split
  · exact elemsAs_loc (fun n hn => by simp [AV.refs] at hn)
  · exact elemsAs_loc h
theorem lenOf_loc {v : AV} (h : SameAt H H' v.refs) : lenOf H v = lenOf H' v := by
  have := elemsOf_loc h
  cases v with
  | sl o i n => simp only [lenOf, h o (by simp [AV.refs])]
  | dat s x => cases s <;> simp only [lenOf, this]
  | _ => simp only [lenOf, this]
theorem toDat_loc (b : Bool) : ∀ (v : AV) (s : Sch), SameAt H H' v.refs → toDat b H s v = toDat b H' s v := by
  intro v
  induction v with
  | row o =>
    intro s h
    cases s <;> simp only [toDat]
    rw [h o (by simp [AV.refs]), elemsAs_loc (v := .row o) h]
  | sl o i n =>
    intro s h
    cases s <;> simp only [toDat]
    rw [h o (by simp [AV.refs]), elemsAs_loc (v := .sl o i n) h]
  | pr a c iha ihc =>
    intro s h
    cases s <;> simp only [toDat]
    rw [iha _ (h.mono fun n hn => by simp [AV.refs, hn]), ihc _ (h.mono fun n hn => by simp [AV.refs, hn])]
  | dat t x => intro s h; simp only [toDat]
  | _ => intro s h; cases s <;> simp only [toDat]
theorem freezes_loc {v : AV} (h : SameAt H H' v.refs) : freezes H v = freezes H' v := by
  unfold freezes
  apply List.map_congr_left
  intro o ho
  rw [h o ho]
theorem asPlain_loc {s : Sch} {v : AV} (h : SameAt H H' v.refs) : asPlain H s v = asPlain H' s v := by
  unfold asPlain
  rw [toDat_loc false v s h, freezes_loc h]
theorem newObj_loc {n : Nat} {ob : AObj} (h : ASt.obj H n = ASt.obj H' n) (hl : H.length = H'.length) : newObj? H n ob = newObj? H' n ob := by
  unfold newObj?
  rw [h, hl]

/-- The objects that some operands name. -/
def refsOf (cur : List AV) (l : List Operand) : List Nat := l.flatMap fun x => (opnd cur x).refs

theorem refsOf_mem {l : List Operand} {x : Operand} (hx : x ∈ l) {n : Nat} (hn : n ∈ (opnd cur x).refs) : n ∈ refsOf cur l := List.mem_flatMap.2 ⟨x, hx, hn⟩

theorem bldSlice_loc (s : Sch) : ∀ (parts : List (Nat × Operand)) (xs : List s.T) (U : Upd), (∀ x, x ∈ parts.map (·.2) → opnd cur x = opnd cur' x) → SameAt H H' (refsOf cur (parts.map (·.2))) → bldSlice s cur H parts xs U = bldSlice s cur' H' parts xs U
  | [], _, _, _, _ => rfl
  | (i, x) :: r, xs, U, hc, h => by
    have hx := hc x (by simp)
    simp only [bldSlice, ← hx]
    rw [asPlain_loc (H := H) (H' := H') (h.mono fun n hn => refsOf_mem (x := x) (by simp) hn)]
    cases asPlain H' s (opnd cur x) with
    | none => rfl
    | some y =>
      obtain ⟨y, V⟩ := y
      simp only
      split
      · exact bldSlice_loc s r _ _ (fun z hz => hc z (by simp at hz ⊢; exact .inr hz)) (h.mono fun n hn => by
          obtain ⟨z, hz, hn⟩ := List.mem_flatMap.1 hn
          exact refsOf_mem (x := z) (by simp at hz ⊢; exact .inr hz) hn)
      · rfl
theorem bldStruct_loc (fs : List (Nat × TypeId)) : ∀ (parts : List (Nat × Operand)) (v : AV), (∀ x, x ∈ parts.map (·.2) → opnd cur x = opnd cur' x) → bldStruct Γ cur fs parts v = bldStruct Γ cur' fs parts v
  | [], _, _ => rfl
  | (k, x) :: r, v, hc => by
    have hx := hc x (by simp)
    simp only [bldStruct, ← hx]
    have ih := fun v => bldStruct_loc fs r v (fun z hz => hc z (by simp at hz ⊢; exact .inr hz))
    have : bldStruct Γ cur fs r = bldStruct Γ cur' fs r := funext ih
    rw [this]

theorem aAppend_loc {t : TypeId} {x y : AV} (hx : SameAt H H' x.refs) (hy : SameAt H H' y.refs) (hn : ASt.obj H nid = ASt.obj H' nid) (hl : H.length = H'.length) : aAppend Γ t x y H nid = aAppend Γ t x y H' nid := by
  unfold aAppend aAppendE
  cases Γ.elem t with
  | none => rfl
  | some es =>
    obtain ⟨E, s⟩ := es
    simp only
    rw [srcElems_loc hy]
    cases srcElems H' s y with
    | none => rfl
    | some ys =>
      simp only
      have hnew : ∀ ob, newObj? H nid ob = newObj? H' nid ob := fun ob => newObj_loc hn hl
      cases x with
      | row o =>
        simp only [hx o (by simp [AV.refs]), hnew]
      | _ => simp only [hnew]
theorem aCopy_loc {t : TypeId} {x y : AV} (hx : SameAt H H' x.refs) (hy : SameAt H H' y.refs) : aCopy Γ t x y H = aCopy Γ t x y H' := by
  unfold aCopy
  cases Γ.elem t with
  | none => rfl
  | some es =>
    obtain ⟨E, s⟩ := es
    simp only
    rw [srcElems_loc hy]
    cases srcElems H' s y with
    | none => rfl
    | some ys =>
      cases x with
      | row o => simp only [hx o (by simp [AV.refs])]
      | sl o i n => simp only [hx o (by simp [AV.refs])]
      | _ => rfl
theorem aLoad_loc {t : TypeId} {x : AV} (hx : SameAt H H' x.refs) : aLoad Γ t x H = aLoad Γ t x H' := by
  cases x with
  | ptr o p => simp only [aLoad, hx o (by simp [AV.refs])]
  | _ => rfl
theorem aStore_loc {t : TypeId} {x u : AV} (hx : SameAt H H' x.refs) (hu : SameAt H H' u.refs) : aStore Γ t x u H = aStore Γ t x u H' := by
  cases x with
  | ptr o p => simp only [aStore, hx o (by simp [AV.refs]), asPlain_loc hu]
  | _ => rfl
theorem aIndexAddr_loc {t : TypeId} {x i : AV} (hx : SameAt H H' x.refs) : aIndexAddr Γ t x i H = aIndexAddr Γ t x i H' := by
  cases x with
  | ptr o p => simp only [aIndexAddr, hx o (by simp [AV.refs])]
  | row o => simp only [aIndexAddr, hx o (by simp [AV.refs])]
  | sl o a n => simp only [aIndexAddr, hx o (by simp [AV.refs])]
  | dat s x => cases s <;> simp only [aIndexAddr]
  | vptr s x => cases s <;> simp only [aIndexAddr]
  | _ => rfl
theorem aFieldAddr_loc {t : TypeId} {x : AV} {f : Nat} (hx : SameAt H H' x.refs) : aFieldAddr Γ t x f H = aFieldAddr Γ t x f H' := by
  cases x with
  | ptr o p => simp only [aFieldAddr, hx o (by simp [AV.refs])]
  | _ => rfl
theorem aConvert_loc {s d : TypeId} {x : AV} (hx : SameAt H H' x.refs) (hn : ASt.obj H nid = ASt.obj H' nid) (hl : H.length = H'.length) : aConvert Γ s d x H nid = aConvert Γ s d x H' nid := by
  have hnew : ∀ ob, newObj? H nid ob = newObj? H' nid ob := fun ob => newObj_loc hn hl
  have he := fun s => elemsAs_loc (s := s) hx
  unfold aConvert
  cases Γ.at_ d with
  | none => rfl
  | some td =>
    simp only
    split
    · rfl
    · split
      · rfl
      · rfl
      · simp only [hnew]
      · rename_i o _
        rw [hx o (by simp [AV.refs])]
      · simp only [he]
      · rfl
theorem aSlice_loc {t : TypeId} {x : AV} {lo hi mx : Option AV} (hx : SameAt H H' x.refs) : aSlice Γ H t x lo hi mx = aSlice Γ H' t x lo hi mx := by
  cases x with
  | row o => simp only [aSlice, hx o (by simp [AV.refs])]
  | sl o a n => simp only [aSlice, hx o (by simp [AV.refs])]
  | dat s x => cases s <;> simp only [aSlice]
  | _ => rfl

theorem aSlice3_loc {t : TypeId} {z : Bool} {x hi mx : AV} {lo : Option AV} (hx : SameAt H H' x.refs) : aSlice3 Γ H t z x lo hi mx = aSlice3 Γ H' t z x lo hi mx := by
  cases x with
  | row o => simp only [aSlice3, hx o (by simp [AV.refs])]
  | sl o a n => simp only [aSlice3, hx o (by simp [AV.refs])]
  | dat s x => cases s <;> simp only [aSlice3]
  | _ => rfl
theorem aSliceX_loc {t : TypeId} {z : Bool} {x : AV} {lo hi mx : Option AV} (hx : SameAt H H' x.refs) : aSliceX Γ H t z x lo hi mx = aSliceX Γ H' t z x lo hi mx := by
  unfold aSliceX
  cases mx with
  | some m =>
    cases hi with
    | none => rfl
    | some h => exact aSlice3_loc hx
  | none =>
    simp only
    split
    · rename_i o
      simp only [aSliceA, hx o (by simp [AV.refs])]
    · exact aSlice_loc hx
theorem aClear_loc {t : TypeId} {x : AV} (hx : SameAt H H' x.refs) : aClear Γ t x H = aClear Γ t x H' := by
  unfold aClear
  cases Γ.elem t with
  | none => rfl
  | some es =>
    obtain ⟨E, s⟩ := es
    simp only
    cases x with
    | row o => simp only [hx o (by simp [AV.refs])]
    | sl o i n => simp only [hx o (by simp [AV.refs])]
    | _ => rfl

theorem flatMap_mem {vs : List AV} {v : AV} (hv : v ∈ vs) {n : Nat} (hn : n ∈ v.refs) : n ∈ vs.flatMap AV.refs := List.mem_flatMap.2 ⟨v, hv, hn⟩

theorem aBuiltin_loc {b : Builtin} {ts : List TypeId} {xs : List AV} (hx : SameAt H H' (xs.flatMap AV.refs)) (hn : b = .append → ASt.obj H nid = ASt.obj H' nid) (hl : H.length = H'.length) : aBuiltin Γ b ts xs H nid = aBuiltin Γ b ts xs H' nid := by
  unfold aBuiltin
  split
  · rename_i x
    rw [lenOf_loc (hx.mono fun n hn => flatMap_mem (by simp) hn)]
  · rename_i x y
    rw [aAppend_loc (hx.mono fun n hn => flatMap_mem (by simp) hn) (hx.mono fun n hn => flatMap_mem (v := y) (by simp) hn) (hn rfl) hl]
  · rename_i x y
    exact aCopy_loc (hx.mono fun n hn => flatMap_mem (by simp) hn) (hx.mono fun n hn => flatMap_mem (v := y) (by simp) hn)
  · rename_i x
    exact aClear_loc (hx.mono fun n hn => flatMap_mem (by simp) hn)
  · rfl
  · rfl
  · rfl

theorem toArg_loc {fresh : Bool} {m : PM} {v : AV} (h : SameAt H H' v.refs) : toArg fresh H m v = toArg fresh H' m v := by
  cases m with
  | d s => simp only [toArg, toDat_loc fresh v s h, freezes_loc h]
  | o E s =>
    cases v with
    | row o => simp only [toArg, h o (by simp [AV.refs])]
    | _ => rfl
  | f => cases v with
    | fn g cp => cases cp <;> rfl
    | _ => rfl
  | p s => cases v with
    | ptr o p => cases p with
      | nil => simp only [toArg, h o (by simp [AV.refs])]
      | cons _ _ => rfl
    | _ => rfl
theorem toArgs_loc {fresh : Bool} : ∀ (ms : List PM) (vs : List AV), SameAt H H' (vs.flatMap AV.refs) → toArgs fresh H ms vs = toArgs fresh H' ms vs
  | [], [], _ => rfl
  | [], _ :: _, _ => rfl
  | _ :: _, [], _ => rfl
  | m :: ms, v :: vs, h => by
    simp only [toArgs]
    rw [toArg_loc (h.mono fun n hn => flatMap_mem (by simp) hn), toArgs_loc ms vs (h.mono fun n hn => by
      obtain ⟨x, hx, hn⟩ := List.mem_flatMap.1 hn
      exact flatMap_mem (List.mem_cons_of_mem _ hx) hn)]
theorem ofRess_loc (hl : H.length = H'.length) : ∀ (rs : List BV) (nid : Nat), (∀ j, j < rowsOf rs → ASt.obj H (nid + j) = ASt.obj H' (nid + j)) → ofRess H rs nid = ofRess H' rs nid
  | [], _, _ => rfl
  | .d s x :: rs, nid, h => by simp only [ofRess, ofRess_loc hl rs nid h]
  | .f g :: rs, nid, h => by simp only [ofRess, ofRess_loc hl rs nid h]
  | .p s x :: rs, nid, h => by simp only [ofRess, ofRess_loc hl rs nid h]
  | .o E s xs :: rs, nid, h => by
    simp only [ofRess]
    have h0 : ASt.obj H nid = ASt.obj H' nid := h 0 (by simp [rowsOf])
    rw [newObj_loc h0 hl, ofRess_loc hl rs (nid + 1) (fun j hj => by
      have := h (j + 1) (by simp only [rowsOf, List.filter_cons_of_pos, List.length_cons] at hj ⊢; omega)
      rwa [show nid + (j + 1) = nid + 1 + j by omega] at this)]
theorem aOrc_loc {k : Orc} {as : List AV} (h : SameAt H H' (as.flatMap AV.refs)) (hn : ∀ j, j < k.rows → ASt.obj H (nid + j) = ASt.obj H' (nid + j)) (hl : H.length = H'.length) : aOrc k as H nid = aOrc k as H' nid := by
  unfold aOrc
  rw [toArgs_loc k.ps as h]
  split
  · split
    · split
      · rename_i pre rs _
        split
        · rename_i hc
          rw [ofRess_loc hl rs nid (fun j hj => hn j (by omega))]
        · rfl
      · rfl
    · rfl
  · rfl

theorem bldFns_loc : ∀ (parts : List (Nat × Operand)) (fs : List (Option FuncId)), (∀ x, x ∈ parts.map (·.2) → opnd cur x = opnd cur' x) → bldFns cur parts fs = bldFns cur' parts fs
  | [], _, _ => rfl
  | (i, x) :: r, fs, h => by
    simp only [bldFns, h x (by simp)]
    split
    · split
      · exact bldFns_loc r _ (fun y hy => h y (by simp only [List.map_cons, List.mem_cons]; exact .inr hy))
      · rfl
    · rfl
theorem mapOpnd {l : List Operand} (h : ∀ x, x ∈ l → opnd cur x = opnd cur' x) : l.map (opnd cur) = l.map (opnd cur') := List.map_congr_left h

theorem aLookup_loc {mv : Bool} {t : TypeId} {m x : AV} {ok : Bool} (h : SameAt H H' m.refs) (hn : ∀ ob, newObj? H nid ob = newObj? H' nid ob) : aLookup mv Γ t m x ok H nid = aLookup mv Γ t m x ok H' nid := by
  cases m with
  | hnd k o =>
    have e := h o (by simp [AV.refs])
    cases k with
    | map =>
      cases x with
      | dat s y => simp only [aLookup, e, hn]
      | _ => rfl
    | _ => rfl
  | _ => rfl
theorem aMapUpdate_loc {t : TypeId} {m x u : AV} (h : SameAt H H' m.refs) (hu : SameAt H H' u.refs) : aMapUpdate Γ t m x u H = aMapUpdate Γ t m x u H' := by
  cases m with
  | hnd k o =>
    have e := h o (by simp [AV.refs])
    cases k with
    | map =>
      cases x with
      | dat s y =>
        have ea := fun s => asPlain_loc (s := s) hu
        cases u with
        | row o2 => simp only [aMapUpdate, e, hu o2 (by simp [AV.refs]), ea]
        | _ => simp only [aMapUpdate, e, ea]
      | _ => rfl
    | _ => rfl
  | _ => rfl
theorem aop_loc {mv : Bool} {o : Op} (hc : ∀ x, x ∈ o.operands.toList → opnd cur x = opnd cur' x) (hr : SameAt H H' (refsOf cur o.operands.toList)) {orc : Orcs} (hn : 0 < makes orc o → ASt.obj H nid = ASt.obj H' nid) (hl : H.length = H'.length) : aop mv Γ o cur H nid = aop mv Γ o cur' H' nid := by
  have one : ∀ x, x ∈ o.operands.toList → SameAt H H' (opnd cur x).refs := fun x hx => hr.mono fun n hn => refsOf_mem hx hn
  have hnew : 0 < makes orc o → ∀ ob, newObj? H nid ob = newObj? H' nid ob := fun h ob => newObj_loc (hn h) hl
  cases o with
  | move x => simp only [aop, hc x (by simp [Op.operands])]
  | assign x => simp only [aop, hc x (by simp [Op.operands])]
  | pick p x y => simp only [aop, hc p (by simp [Op.operands]), hc x (by simp [Op.operands]), hc y (by simp [Op.operands])]
  | alloc t => simp only [aop, hnew (by simp [makes])]
  | box t x => simp only [aop, hc x (by simp [Op.operands]), hnew (by simp [makes])]
  | build t parts =>
    have hp : ∀ x, x ∈ parts.toList.map (·.2) → opnd cur x = opnd cur' x := fun x hx => hc x (by simpa [Op.operands] using hx)
    have hb := fun fs z => bldStruct_loc (Γ := Γ) fs parts.toList z hp
    have hs : SameAt H H' (refsOf cur (parts.toList.map (·.2))) := by simpa [Op.operands] using hr
    have ha := fun s xs U => bldSlice_loc s parts.toList xs U hp hs
    have hf := fun fs => bldFns_loc parts.toList fs hp
    simp only [aop, hb, ha, hf]
  | buildSlice t n parts =>
    have hp : ∀ x, x ∈ parts.toList.map (·.2) → opnd cur x = opnd cur' x := fun x hx => hc x (by simpa [Op.operands] using hx)
    have hs : SameAt H H' (refsOf cur (parts.toList.map (·.2))) := by simpa [Op.operands] using hr
    have ha := fun s xs U => bldSlice_loc s parts.toList xs U hp hs
    simp only [aop, ha, hnew (by simp [makes])]
  | load t x => simp only [aop, ← hc x (by simp [Op.operands])]; exact aLoad_loc (one x (by simp [Op.operands]))
  | store t x y => simp only [aop, ← hc x (by simp [Op.operands]), ← hc y (by simp [Op.operands])]; exact aStore_loc (one x (by simp [Op.operands])) (one y (by simp [Op.operands]))
  | nilCheck x =>
    have h1 := one x (by simp [Op.operands])
    simp only [aop, ← hc x (by simp [Op.operands])]
    generalize opnd cur x = v at h1
    cases v with
    | ptr o p => simp only [h1 o (by simp [AV.refs])]
    | _ => rfl
  | binOp op t x y z => simp only [aop, hc x (by simp [Op.operands]), hc y (by simp [Op.operands])]
  | unOp op t x => simp only [aop, hc x (by simp [Op.operands])]
  | convert s d x => simp only [aop, ← hc x (by simp [Op.operands])]; exact aConvert_loc (one x (by simp [Op.operands])) (hn (by simp [makes])) hl
  | makeFunc f first caps =>
    cases f with
    | func f =>
      have hp : ∀ x, x ∈ caps.toList → opnd cur x = opnd cur' x := fun x hx => hc x (by simp [Op.operands]; exact .inr (by simpa using hx))
      have e1 : caps.toList.all (fun x => !(opnd cur x).isTup) = caps.toList.all (fun x => !(opnd cur' x).isTup) := by
        rw [Bool.eq_iff_iff, List.all_eq_true, List.all_eq_true]
        constructor <;> (intro h x hx; have := h x hx; rw [hp x hx] at *; exact this)
      have hq : ∀ x, x ∈ first.toList → opnd cur x = opnd cur' x := fun x hx => hc x (by simp [Op.operands]; exact .inl (by simpa using hx))
      have e3 : first.toList.all (fun x => !(opnd cur x).isTup) = first.toList.all (fun x => !(opnd cur' x).isTup) := by
        rw [Bool.eq_iff_iff, List.all_eq_true, List.all_eq_true]
        constructor <;> (intro h x hx; have := h x hx; rw [hq x hx] at *; exact this)
      have e4 : first.toList.foldr (fun x r => AV.pr (opnd cur x) r) .un = first.toList.foldr (fun x r => AV.pr (opnd cur' x) r) .un := by
        have := mapOpnd hq
        have k : ∀ c, first.toList.foldr (fun x r => AV.pr (opnd c x) r) .un = (first.toList.map (opnd c)).foldr .pr .un := fun c => by rw [List.foldr_map]
        rw [k, k, this]
      have e2 : caps.toList.foldr (fun x r => AV.pr (opnd cur x) r) .un = caps.toList.foldr (fun x r => AV.pr (opnd cur' x) r) .un := by
        have := mapOpnd hp
        have k : ∀ c, caps.toList.foldr (fun x r => AV.pr (opnd c x) r) .un = (caps.toList.map (opnd c)).foldr .pr .un := fun c => by rw [List.foldr_map]
        rw [k, k, this]
      simp only [aop, e1, e2, e3, e4]
    | _ => rfl
  | makeInterface t x => simp only [aop, hc x (by simp [Op.operands])]
  | range t x => simp only [aop, hc x (by simp [Op.operands]), hnew (by simp [makes])]
  | makeSlice t l cp => simp only [aop, aMake, hc l (by simp [Op.operands]), hc cp (by simp [Op.operands]), hnew (by simp [makes])]
  | slice t x lo hi mx =>
    have h1 : ∀ y : Option Operand, (∀ z, y = some z → opnd cur z = opnd cur' z) → y.map (opnd cur) = y.map (opnd cur') := by
      intro y hy
      cases y with
      | none => rfl
      | some z => simp [hy z rfl]
    simp only [aop, ← hc x (by simp [Op.operands]), ← h1 lo (fun z hz => hc z (by simp [Op.operands, hz])), ← h1 hi (fun z hz => hc z (by simp [Op.operands, hz])), ← h1 mx (fun z hz => hc z (by simp [Op.operands, hz]))]
    rw [aSliceX_loc (one x (by simp [Op.operands]))]
  | fieldAddr t x f => simp only [aop, ← hc x (by simp [Op.operands])]; rw [aFieldAddr_loc (one x (by simp [Op.operands]))]
  | field t x f => simp only [aop, hc x (by simp [Op.operands])]
  | indexAddr t x i => simp only [aop, ← hc x (by simp [Op.operands]), ← hc i (by simp [Op.operands])]; exact aIndexAddr_loc (one x (by simp [Op.operands]))
  | index t x i => simp only [aop, hc x (by simp [Op.operands]), hc i (by simp [Op.operands])]
  | extract x i => simp only [aop, hc x (by simp [Op.operands])]
  | makeMap t r =>
    cases r with
    | none => simp only [aop, aMakeMap, hnew (by simp [makes])]
    | some _ => rfl
  | lookup t m x ok =>
    simp only [aop, ← hc m (by simp [Op.operands]), ← hc x (by simp [Op.operands])]
    exact aLookup_loc (one m (by simp [Op.operands])) (hnew (by simp [makes]))
  | mapUpdate t m x u =>
    simp only [aop, ← hc m (by simp [Op.operands]), ← hc x (by simp [Op.operands]), ← hc u (by simp [Op.operands])]
    exact aMapUpdate_loc (one m (by simp [Op.operands])) (one u (by simp [Op.operands]))
  | call cl =>
    obtain ⟨callee, args, ts⟩ := cl
    cases callee with
    | builtin b =>
      have hp : ∀ x, x ∈ args.toList → opnd cur x = opnd cur' x := fun x hx => hc x (by simp [Op.operands, Call.operands]; simpa using hx)
      simp only [aop, ← mapOpnd hp]
      refine aBuiltin_loc (hr.mono fun n hn => ?_) (fun e => hn (by subst e; simp [makes])) hl
      obtain ⟨v, hv, hn⟩ := List.mem_flatMap.1 hn
      obtain ⟨x, hx, rfl⟩ := List.mem_map.1 hv
      exact refsOf_mem (x := x) (by simp [Op.operands, Call.operands]; simpa using hx) hn
    | _ => rfl
  | _ => rfl

theorem unchain_refs : ∀ {c : AV} {vs : List AV}, unchain c = some vs → ∀ n, n ∈ vs.flatMap AV.refs → n ∈ c.refs
  | .un, vs, h, n, hn => by simp only [unchain, Option.some.injEq] at h; subst h; simp at hn
  | .pr a b, vs, h, n, hn => by
    simp only [unchain] at h
    cases hb : unchain b with
    | none => rw [hb] at h; cases h
    | some l =>
      rw [hb] at h; cases h
      rw [List.flatMap_cons, List.mem_append] at hn
      rcases hn with hn | hn
      · exact List.mem_append_left _ hn
      · exact List.mem_append_right _ (unchain_refs hb n hn)
  | .dat _ _, _, h, _, _ => by simp [unchain] at h
  | .slx _ _, _, h, _, _ => by simp [unchain] at h
  | .nils, _, h, _, _ => by simp [unchain] at h
  | .emp, _, h, _, _ => by simp [unchain] at h
  | .row _, _, h, _, _ => by simp [unchain] at h
  | .sl _ _ _, _, h, _, _ => by simp [unchain] at h
  | .vptr _ _, _, h, _, _ => by simp [unchain] at h
  | .ptr _ _, _, h, _, _ => by simp [unchain] at h
  | .fn _ _, _, h, _, _ => by simp [unchain] at h
  | .nilfn, _, h, _, _ => by simp [unchain] at h
  | .hnd _ _, _, h, _, _ => by simp [unchain] at h
  | .mv _ _, _, h, _, _ => by simp [unchain] at h
  | .ifc _, _, h, _, _ => by simp [unchain] at h
  | .nilp, _, h, _, _ => by simp [unchain] at h
  | .nilm, _, h, _, _ => by simp [unchain] at h
  | .fns _, _, h, _, _ => by simp [unchain] at h
  | .fsel _ _, _, h, _, _ => by simp [unchain] at h
  | .pk _ _, _, h, _, _ => by simp [unchain] at h
  | .tup _, _, h, _, _ => by simp [unchain] at h
  | .dead, _, h, _, _ => by simp [unchain] at h

theorem nest_loc {o : Op} (hc : ∀ x, x ∈ o.operands.toList → opnd cur x = opnd cur' x) (hr : SameAt H H' (refsOf cur o.operands.toList)) : nest true Γ o cur H nid = nest true Γ o cur' H' nid := by
  have one : ∀ x, x ∈ o.operands.toList → SameAt H H' (opnd cur x).refs := fun x hx => hr.mono fun n hn => refsOf_mem hx hn
  cases o with
  | load t x =>
    have h1 := one x (by simp [Op.operands])
    simp only [nest, ← hc x (by simp [Op.operands])]
    generalize opnd cur x = v at h1
    cases v with
    | hnd k o => have e := h1 o (by simp [AV.refs]); cases k <;> simp only [nLoad, e]
    | _ => rfl
  | store t x y =>
    have h1 := one x (by simp [Op.operands])
    simp only [nest, ← hc x (by simp [Op.operands]), ← hc y (by simp [Op.operands])]
    generalize opnd cur x = v at h1
    cases v with
    | hnd k o => have e := h1 o (by simp [AV.refs]); cases k <;> simp only [nStore, e]
    | _ => rfl
  | indexAddr t x i =>
    have h1 := one x (by simp [Op.operands])
    simp only [nest, ← hc x (by simp [Op.operands]), ← hc i (by simp [Op.operands])]
    generalize opnd cur x = v at h1
    cases v with
    | hnd k o => have e := h1 o (by simp [AV.refs]); cases k <;> simp only [nIndex, e]
    | _ => rfl
  | slice t x lo hi mx =>
    have h1 := one x (by simp [Op.operands])
    have h2 : ∀ y : Option Operand, (∀ z, y = some z → opnd cur z = opnd cur' z) → y.map (opnd cur) = y.map (opnd cur') := by
      intro y hy
      cases y with
      | none => rfl
      | some z => simp [hy z rfl]
    simp only [nest, ← hc x (by simp [Op.operands]), ← h2 lo (fun z hz => hc z (by simp [Op.operands, hz])), ← h2 hi (fun z hz => hc z (by simp [Op.operands, hz])), ← h2 mx (fun z hz => hc z (by simp [Op.operands, hz]))]
    generalize opnd cur x = v at h1
    cases v with
    | hnd k o => have e := h1 o (by simp [AV.refs]); cases k <;> simp only [nSlice, e]
    | _ => rfl
  | call cl =>
    obtain ⟨callee, args, ts⟩ := cl
    cases callee with
    | builtin b =>
      have hp : ∀ x, x ∈ args.toList → opnd cur x = opnd cur' x := fun x hx => hc x (by simp [Op.operands, Call.operands]; simpa using hx)
      cases b with
      | len =>
        simp only [nest]
        split
        · rename_i t x hts hxs
          have hx : x ∈ args.toList := by rw [hxs]; simp
          have h1 := one x (by simp [Op.operands, Call.operands]; simpa using hx)
          rw [← hp x hx]
          generalize opnd cur x = v at h1
          have e : nLen H v = nLen H' v := by
            cases v with
            | hnd k o => have e := h1 o (by simp [AV.refs]); cases k <;> simp only [nLen, e]
            | _ => rfl
          have e2 : mapLen Γ t v H = mapLen Γ t v H' := by
            unfold mapLen
            split
            · rename_i o _
              have e := h1 o (by simp [AV.refs]); rw [e]
            · rfl
          rw [e, e2]
        · rfl
      | cap =>
        simp only [nest]
        split
        · rename_i t x hts hxs
          rw [← hp x (by rw [hxs]; simp)]
        · rfl
      | _ => rfl
    | _ => rfl
  | entry x =>
    have h1 := one x (by simp [Op.operands])
    simp only [nest, ← hc x (by simp [Op.operands])]
    generalize opnd cur x = v at h1
    unfold nEntry
    split
    · rename_i n
      have e := h1 n (by simp [AV.refs]); rw [e]
    · rfl
  | _ => rfl

/-- An operation looks at its operands, and at the objects that they name. -/
theorem astep_loc {o : Op} {orc : Orcs} (hc : ∀ x, x ∈ o.operands.toList → opnd cur x = opnd cur' x) (hr : SameAt H H' (refsOf cur o.operands.toList)) (hn : ∀ j, j < makes orc o → ASt.obj H (nid + j) = ASt.obj H' (nid + j)) (hl : H.length = H'.length) : astep true Γ orc o cur H nid = astep true Γ orc o cur' H' nid := by
  have hn0 : 0 < makes orc o → ASt.obj H nid = ASt.obj H' nid := fun h => hn 0 h
  unfold astep
  split
  · rename_i f args ts
    have hp : ∀ x, x ∈ args.toList → opnd cur x = opnd cur' x := fun x hx => hc x (by simp [Op.operands, Call.operands]; exact .inr (by simpa using hx))
    have hf : opnd cur f = opnd cur' f := hc f (by simp [Op.operands, Call.operands])
    have e : calleeOf cur f (args.toList.map (opnd cur)) = calleeOf cur' f (args.toList.map (opnd cur')) := by
      unfold calleeOf
      rw [← hf, mapOpnd hp]
    rw [← e]
    split
    · rename_i g as hca
      split
      · rename_i k hk
        split
        · rename_i hrows
          refine aOrc_loc (hr.mono fun n hn => ?_) (fun j hj => hn j (by omega)) hl
          unfold calleeOf at hca
          split at hca
          · rename_i g' caps hfc
            cases hu : unchain caps with
            | none => rw [hu] at hca; cases hca
            | some cs =>
              rw [hu] at hca
              cases hca
              rw [List.flatMap_append, List.mem_append] at hn
              rcases hn with hn | hn
              · obtain ⟨v, hv, hn⟩ := List.mem_flatMap.1 hn
                obtain ⟨x, hx, rfl⟩ := List.mem_map.1 hv
                exact refsOf_mem (x := x) (by simp [Op.operands, Call.operands]; exact .inr (by simpa using hx)) hn
              · exact refsOf_mem (x := f) (by simp [Op.operands, Call.operands]) (by rw [hfc]; exact unchain_refs hu n hn)
          · rename_i g' fst hfc
            cases hu : unchain fst with
            | none => rw [hu] at hca; cases hca
            | some cs =>
              rw [hu] at hca
              cases hca
              rw [List.flatMap_append, List.mem_append] at hn
              rcases hn with hn | hn
              · exact refsOf_mem (x := f) (by simp [Op.operands, Call.operands]) (by rw [hfc]; exact unchain_refs hu n hn)
              · obtain ⟨v, hv, hn⟩ := List.mem_flatMap.1 hn
                obtain ⟨x, hx, rfl⟩ := List.mem_map.1 hv
                exact refsOf_mem (x := x) (by simp [Op.operands, Call.operands]; exact .inr (by simpa using hx)) hn
          · cases hca
        · rfl
      · rfl
    · rfl
  · rw [aop_loc hc hr hn0 hl, nest_loc hc hr]
theorem lookRefs_eq {o : Op} (hc : ∀ x, x ∈ o.operands.toList → opnd cur x = opnd cur' x) : lookRefs cur o = lookRefs cur' o := by
  unfold lookRefs
  split
  · rfl
  · rfl
  · rw [List.flatMap_def, List.flatMap_def, List.map_congr_left (fun x hx => by rw [hc x hx])]
theorem astep_look {o : Op} {orc : Orcs} (hc : ∀ x, x ∈ o.operands.toList → opnd cur x = opnd cur' x) (hr : SameAt H H' (lookRefs cur o)) (hn : ∀ j, j < makes orc o → ASt.obj H (nid + j) = ASt.obj H' (nid + j)) (hl : H.length = H'.length) : astep true Γ orc o cur H nid = astep true Γ orc o cur' H' nid := by
  cases o with
  | move x => simp only [astep, aop, hc x (by simp [Op.operands])]
  | assign x => simp only [astep, aop, hc x (by simp [Op.operands])]
  | _ => exact astep_loc hc hr hn hl
end
end Go.AI

/- What operations do to the state, in whatever order. -/
noncomputable section
namespace Go.AI
open Go Go.RowKit

/-- What an operation does to the slots and the objects. -/
structure Eff where
  dst : Option Tmp
  v : AV
  U : Upd
  deriving Inhabited
def Eff.app (e : Eff) (s : List AV × List AObj) : List AV × List AObj := (putDst s.1 e.dst e.v, upd s.2 e.U)

/-- The effects that are listed, in the order of the text. -/
def foldD : List Eff → (Nat → Bool) → Nat → List AV × List AObj → List AV × List AObj
  | [], _, _, s => s
  | e :: es, D, i, s => foldD es D (i + 1) (if D i then e.app s else s)

theorem app_len (e : Eff) (s : List AV × List AObj) : (e.app s).1.length = s.1.length ∧ (e.app s).2.length = s.2.length := by
  refine ⟨?_, upd_len _ _⟩
  unfold Eff.app putDst
  cases e.dst <;> simp
theorem foldD_len : ∀ (es : List Eff) (D : Nat → Bool) (i : Nat) (s : List AV × List AObj), (foldD es D i s).1.length = s.1.length ∧ (foldD es D i s).2.length = s.2.length
  | [], _, _, _ => ⟨rfl, rfl⟩
  | e :: es, D, i, s => by
    simp only [foldD]
    obtain ⟨h1, h2⟩ := foldD_len es D (i + 1) (if D i then e.app s else s)
    obtain ⟨g1, g2⟩ := app_len e s
    rw [h1, h2]
    split <;> simp [g1, g2]

/-- Two effects that do not touch each other. -/
def Apart (e f : Eff) : Prop := (∀ d, e.dst = some d → f.dst ≠ some d) ∧ ∀ x, x ∈ e.U → ∀ y, y ∈ f.U → x.1 ≠ y.1

theorem set_upd (o : Nat) (ob : AObj) : ∀ (U : Upd) (H : List AObj), (∀ y, y ∈ U → o ≠ y.1) → upd (H.set o ob) U = (upd H U).set o ob
  | [], _, _ => rfl
  | y :: U, H, h => by
    show upd ((H.set o ob).set y.1 y.2) U = (upd (H.set y.1 y.2) U).set o ob
    rw [List.set_comm _ _ (h y List.mem_cons_self)]
    exact set_upd o ob U _ (fun z hz => h z (List.mem_cons_of_mem _ hz))
theorem upd_comm : ∀ (U V : Upd) (H : List AObj), (∀ x, x ∈ U → ∀ y, y ∈ V → x.1 ≠ y.1) → upd (upd H U) V = upd (upd H V) U
  | [], _, _, _ => rfl
  | x :: U, V, H, h => by
    show upd (upd (H.set x.1 x.2) U) V = upd ((upd H V).set x.1 x.2) U
    rw [upd_comm U V _ (fun z hz => h z (List.mem_cons_of_mem _ hz)), set_upd x.1 x.2 V H (h x List.mem_cons_self)]

theorem app_comm {e f : Eff} (h : Apart e f) (s : List AV × List AObj) : f.app (e.app s) = e.app (f.app s) := by
  unfold Eff.app
  simp only
  rw [upd_comm _ _ _ h.2]
  congr 1
  unfold putDst
  cases he : e.dst with
  | none => rfl
  | some d =>
    cases hf : f.dst with
    | none => rfl
    | some d' =>
      simp only [setR_eq]
      exact List.set_comm _ _ (fun e1 => h.1 d he (by rw [hf, e1]))

theorem foldD_push {e0 : Eff} : ∀ (es : List Eff) (D : Nat → Bool) (i : Nat) (s : List AV × List AObj), (∀ j e, es[j]? = some e → D (i + j) = true → Apart e0 e) → foldD es D i (e0.app s) = e0.app (foldD es D i s)
  | [], _, _, _, _ => rfl
  | e :: es, D, i, s, h => by
    simp only [foldD]
    have ih := fun s => foldD_push es D (i + 1) s (fun j f hj hD => h (j + 1) f (by simpa using hj) (by rwa [show i + (j + 1) = i + 1 + j by omega]))
    cases hD : D i with
    | false => simp only [Bool.false_eq_true, if_false]; exact ih s
    | true =>
      simp only [if_true]
      rw [app_comm (h 0 e rfl (by simpa using hD)), ih]

/-- One effect more. -/
theorem foldD_add {e0 : Eff} {D D' : Nat → Bool} {k : Nat} (hD : D k = false) (hD' : ∀ j, D' j = (D j || j == k)) : ∀ (es : List Eff) (i : Nat) (s : List AV × List AObj), i ≤ k → es[k - i]? = some e0 → (∀ j e, es[j]? = some e → k < i + j → D (i + j) = true → Apart e0 e) →
    foldD es D' i s = e0.app (foldD es D i s)
  | [], i, s, _, h0, _ => by simp at h0
  | e :: es, i, s, hik, h0, ha => by
    simp only [foldD]
    by_cases h : i = k
    · subst h
      rw [Nat.sub_self] at h0
      simp only [List.getElem?_cons_zero, Option.some.injEq] at h0
      subst h0
      have h1 : D' i = true := by rw [hD']; simp
      rw [h1, hD]
      simp only [if_true, Bool.false_eq_true, if_false]
      have same : ∀ (es : List Eff) (m : Nat) (s : List AV × List AObj), i < m → foldD es D' m s = foldD es D m s := by
        intro es
        induction es with
        | nil => intro m s _; rfl
        | cons f es ih =>
          intro m s hm
          have : D' m = D m := by rw [hD']; have : (m == i) = false := by simpa using Nat.ne_of_gt hm
                                  rw [this, Bool.or_false]
          simp only [foldD, this]
          exact ih (m + 1) _ (by omega)
      rw [same es (i + 1) _ (by omega)]
      exact foldD_push es D (i + 1) s (fun j f hj hDj => ha (j + 1) f (by simpa using hj) (by omega) (by rwa [show i + (j + 1) = i + 1 + j by omega]))
    · have h1 : D' i = D i := by
        rw [hD']
        have : (i == k) = false := by simpa using h
        rw [this, Bool.or_false]
      rw [h1]
      refine foldD_add hD hD' es (i + 1) _ (by omega) ?_ (fun j f hj hlt hDj => ha (j + 1) f (by simpa using hj) (by omega) (by rwa [show i + (j + 1) = i + 1 + j by omega]))
      have e1 : k - i = (k - (i + 1)) + 1 := by omega
      rw [e1] at h0
      simpa using h0

/-- A slot depends on the effects that it is the end of. -/
theorem foldD_slot {t : Nat} : ∀ (es : List Eff) (D D' : Nat → Bool) (i : Nat) (s s' : List AV × List AObj), s.1.length = s'.1.length → s.1.getD t .dead = s'.1.getD t .dead → (∀ j e, es[j]? = some e → e.dst = some t → D (i + j) = D' (i + j)) → (foldD es D i s).1.getD t .dead = (foldD es D' i s').1.getD t .dead
  | [], _, _, _, _, _, _, h, _ => h
  | e :: es, D, D', i, s, s', hl, h, hd => by
    simp only [foldD]
    have other : ∀ (u : List AV × List AObj), e.dst ≠ some t → (e.app u).1.getD t .dead = u.1.getD t .dead := by
      intro u hne
      unfold Eff.app putDst
      cases hdst : e.dst with
      | none => rfl
      | some d =>
        have : d ≠ t := fun e1 => hne (by rw [hdst, e1])
        simp [List.getD, List.getElem?_set_ne this]
    refine foldD_slot es D D' (i + 1) _ _ ?_ ?_ (fun j f hj hf => by
      have := hd (j + 1) f (by simpa using hj) hf
      rwa [show i + (j + 1) = i + 1 + j by omega] at this)
    · have h1 := (app_len e s).1
      have h2 := (app_len e s').1
      split <;> split <;> omega
    · by_cases hdst : e.dst = some t
      · have := hd 0 e rfl hdst
        simp only [Nat.add_zero] at this
        rw [this]
        split
        · unfold Eff.app putDst
          simp only [hdst, setR_eq, List.getD, List.getElem?_set, hl, if_true]
        · exact h
      · have a1 := other s hdst
        have a2 := other s' hdst
        split <;> split <;> simp only [a1, a2, h]
/-- So does an object. -/
theorem foldD_obj {o : Nat} : ∀ (es : List Eff) (D D' : Nat → Bool) (i : Nat) (s s' : List AV × List AObj), s.2.length = s'.2.length → ASt.obj s.2 o = ASt.obj s'.2 o → (∀ j e, es[j]? = some e → (∃ x, x ∈ e.U ∧ x.1 = o) → D (i + j) = D' (i + j)) → ASt.obj (foldD es D i s).2 o = ASt.obj (foldD es D' i s').2 o
  | [], _, _, _, _, _, _, h, _ => h
  | e :: es, D, D', i, s, s', hl, h, hd => by
    simp only [foldD]
    refine foldD_obj es D D' (i + 1) _ _ ?_ ?_ (fun j f hj hf => by
      have := hd (j + 1) f (by simpa using hj) hf
      rwa [show i + (j + 1) = i + 1 + j by omega] at this)
    · have h1 := (app_len e s).2
      have h2 := (app_len e s').2
      split <;> split <;> omega
    · by_cases hk : ∃ x, x ∈ e.U ∧ x.1 = o
      · have := hd 0 e rfl hk
        simp only [Nat.add_zero] at this
        rw [this]
        split
        · have key : ∀ (U : Upd) (H H' : List AObj), H.length = H'.length → ASt.obj H o = ASt.obj H' o → ASt.obj (upd H U) o = ASt.obj (upd H' U) o := by
            intro U
            induction U with
            | nil => intro H H' _ h; exact h
            | cons x U ih =>
              intro H H' hl h
              refine ih _ _ (by simpa using hl) ?_
              show ASt.obj (H.set x.1 x.2) o = ASt.obj (H'.set x.1 x.2) o
              by_cases hx : x.1 = o
              · subst hx
                rcases Nat.lt_or_ge x.1 H.length with hlt | hge
                · rw [obj_set_same hlt, obj_set_same (by omega)]
                · rw [List.set_eq_of_length_le hge, List.set_eq_of_length_le (by omega)]; exact h
              · rw [obj_set_other hx, obj_set_other hx]; exact h
          exact key _ _ _ hl h
        · exact h
      · have a1 : ASt.obj (e.app s).2 o = ASt.obj s.2 o := upd_other e.U s.2 (fun x hx hxo => hk ⟨x, hx, hxo⟩)
        have a2 : ASt.obj (e.app s').2 o = ASt.obj s'.2 o := upd_other e.U s'.2 (fun x hx hxo => hk ⟨x, hx, hxo⟩)
        split <;> split <;> simp only [a1, a2, h]
end Go.AI

/- Regions whose order is drawn. -/
noncomputable section
namespace Go.AI
open Go Go.RowKit

/-- One operation of a region whose order is drawn: its effect, and what it touches. -/
def dstep (Γ : Gam) (orc : Orcs) (all : List Oper) (o : Oper) (nid : Nat) (cur : List AV) (H : List AObj) : Option (Eff × FP) :=
  let go : Option (Eff × FP) := match astep true Γ orc o.op cur H nid with
    | some (true, v, U) => some (⟨o.dst, v, U⟩, fpOf orc o cur nid U)
    | _ => none
  bif offGuard all cur o then some (⟨o.dst, und, []⟩, ⟨[], []⟩) else
  match o.guard with
  | none => go
  | some (j, want) => match guardAt all cur j with
    | none => none
    | some (_, b) => if b == want then go else some (⟨o.dst, und, []⟩, ⟨[], []⟩)

def nidAt (orc : Orcs) (nid : Nat) (l : List Oper) : Nat := nid + makesAll orc l

/-- The effects of operations in the order of the text. -/
inductive Trace (Γ : Gam) (orc : Orcs) (all : List Oper) : List Oper → Nat → List AV × List AObj → List Eff → List FP → Prop
  | nil {nid : Nat} {s : List AV × List AObj} : Trace Γ orc all [] nid s [] []
  | cons {o : Oper} {rest : List Oper} {nid : Nat} {s : List AV × List AObj} {e : Eff} {fp : FP} {es : List Eff} {fps : List FP} :
      dstep Γ orc all o nid s.1 s.2 = some (e, fp) → Trace Γ orc all rest (nid + makes orc o.op) (e.app s) es fps → Trace Γ orc all (o :: rest) nid s (e :: es) (fp :: fps)

section
variable {P : Program} {Γ : Gam} {orc : Orcs} {all : List Oper} {R : Type}

theorem set_guard {cur : List AV} {j d : Nat} {b : Bool} (h : guardAt all cur j = some (d, b)) : cur.set d (.dat .bool b) = cur := by
  unfold guardAt at h
  split at h
  · split at h
    · rename_i hb
      cases h
      exact set_self hb
    · cases h
  · cases h

theorem xopsD_trace {k : List AV → List AObj → List FP → Option R} {r : R} : ∀ (rest : List Oper) (nid : Nat) (cur : List AV) (H : List AObj) (fps : List FP), xopsD Γ orc all rest nid cur H fps k = some r →
    ∃ es fs, Trace Γ orc all rest nid (cur, H) es fs ∧ k (es.foldl (fun s e => e.app s) (cur, H)).1 (es.foldl (fun s e => e.app s) (cur, H)).2 (fps ++ fs) = some r
  | [], nid, cur, H, fps, h => ⟨[], [], .nil, by simpa [xopsD_nil] using h⟩
  | o :: rest, nid, cur, H, fps, h => by
    have go : (match astep true Γ orc o.op cur H nid with
      | some (c, v, U) => bif c then xopsD Γ orc all rest (nid + makes orc o.op) (putDst cur o.dst v) (upd H U) (fps ++ [fpOf orc o cur nid U]) k else none
      | none => none) = some r → ∃ v U, astep true Γ orc o.op cur H nid = some (true, v, U) ∧ ∃ es fs, Trace Γ orc all rest (nid + makes orc o.op) (putDst cur o.dst v, upd H U) es fs ∧
        k (es.foldl (fun s e => e.app s) (putDst cur o.dst v, upd H U)).1 (es.foldl (fun s e => e.app s) (putDst cur o.dst v, upd H U)).2 (fps ++ fpOf orc o cur nid U :: fs) = some r := by
      intro h
      split at h
      · rename_i c v U ha
        cases c with
        | false => cases h
        | true =>
          obtain ⟨es, fs, h1, h2⟩ := xopsD_trace rest _ _ _ _ h
          exact ⟨v, U, ha, es, fs, h1, by simpa using h2⟩
      · cases h
    rw [xopsD_cons] at h
    simp only at h
    rcases bif_some' h with ⟨hoff, h⟩ | ⟨hoff, h⟩
    · obtain ⟨es, fs, h1, h2⟩ := xopsD_trace rest _ _ _ _ h
      exact ⟨⟨o.dst, und, []⟩ :: es, ⟨[], []⟩ :: fs, .cons (by simp only [dstep, hoff]; rfl) h1, by
        have e1 : (⟨o.dst, und, []⟩ : Eff).app (cur, H) = (putDst cur o.dst und, H) := rfl
        rw [List.foldl_cons, e1]
        simpa using h2⟩
    split at h
    · rename_i hg
      obtain ⟨v, U, ha, es, fs, h1, h2⟩ := go h
      exact ⟨⟨o.dst, v, U⟩ :: es, fpOf orc o cur nid U :: fs, .cons (by simp [dstep, hoff, hg, ha]) h1, h2⟩
    · rename_i j want hg
      split at h
      · cases h
      · rename_i d b hgd
        have hs := set_guard hgd
        have h' : (if (b == want) = true then (match astep true Γ orc o.op (cur.set d (.dat .bool b)) H nid with
            | some (c, v, U) => bif c then xopsD Γ orc all rest (nid + makes orc o.op) (putDst (cur.set d (.dat .bool b)) o.dst v) (upd H U) (fps ++ [fpOf orc o (cur.set d (.dat .bool b)) nid U]) k else none
            | none => none)
          else xopsD Γ orc all rest (nid + makes orc o.op) (putDst (cur.set d (.dat .bool b)) o.dst und) H (fps ++ [⟨[], []⟩]) k) = some r := by
          cases b <;> exact h
        rw [hs] at h'
        split at h'
        · rename_i hbw
          obtain ⟨v, U, ha, es, fs, h1, h2⟩ := go h'
          exact ⟨⟨o.dst, v, U⟩ :: es, fpOf orc o cur nid U :: fs, .cons (by simp only [dstep, hoff, cond_false, hg, hgd, hbw, if_true, ha]) h1, h2⟩
        · rename_i hbw
          obtain ⟨es, fs, h1, h2⟩ := xopsD_trace rest _ _ _ _ h'
          exact ⟨⟨o.dst, und, []⟩ :: es, ⟨[], []⟩ :: fs, .cons (by simp only [dstep, hoff, cond_false, hg, hgd, hbw]; rfl) h1, by
            have e1 : (⟨o.dst, und, []⟩ : Eff).app (cur, H) = (putDst cur o.dst und, H) := rfl
            rw [List.foldl_cons, e1]
            simpa using h2⟩

theorem foldD_none : ∀ (es : List Eff) (D : Nat → Bool) (i : Nat) (s : List AV × List AObj), (∀ j, i ≤ j → D j = false) → foldD es D i s = s
  | [], _, _, _, _ => rfl
  | e :: es, D, i, s, h => by
    simp only [foldD, h i (Nat.le_refl _), Bool.false_eq_true, if_false]
    exact foldD_none es D (i + 1) s (fun j hj => h j (by omega))
theorem foldD_all : ∀ (es : List Eff) (D : Nat → Bool) (i : Nat) (s : List AV × List AObj), (∀ j, i ≤ j → j < i + es.length → D j = true) → foldD es D i s = es.foldl (fun s e => e.app s) s
  | [], _, _, _, _ => rfl
  | e :: es, D, i, s, h => by
    simp only [foldD, h i (Nat.le_refl _) (by simp), if_true, List.foldl_cons]
    exact foldD_all es D (i + 1) _ (fun j hj hlt => h j (by omega) (by simp only [List.length_cons]; omega))

/-- Each operation's effect, at the state that the operations before it have left. -/
theorem trace_get : ∀ {rest : List Oper} {nid : Nat} {s : List AV × List AObj} {es : List Eff} {fs : List FP}, Trace Γ orc all rest nid s es fs → es.length = rest.length ∧ fs.length = rest.length ∧
    ∀ i o, rest[i]? = some o → ∃ e fp, es[i]? = some e ∧ fs[i]? = some fp ∧ ∀ b, dstep Γ orc all o (nid + makesAll orc (rest.take i)) (foldD es (fun j => decide (j < b + i)) b s).1 (foldD es (fun j => decide (j < b + i)) b s).2 = some (e, fp) := by
  intro rest nid s es fs h
  induction h with
  | nil => exact ⟨rfl, rfl, fun i o hi => by simp at hi⟩
  | @cons o rest nid s e fp es fs h1 _ ih =>
    obtain ⟨l1, l2, ih⟩ := ih
    refine ⟨by simp [l1], by simp [l2], fun i o' hi => ?_⟩
    cases i with
    | zero =>
      simp only [List.getElem?_cons_zero, Option.some.injEq] at hi
      subst hi
      refine ⟨e, fp, rfl, rfl, fun b => ?_⟩
      rw [foldD_none _ _ _ _ (fun j hj => by simp only [decide_eq_false_iff_not]; omega)]
      simpa [makesAll] using h1
    | succ i =>
      obtain ⟨e', fp', g1, g2, g3⟩ := ih i o' (by simpa using hi)
      refine ⟨e', fp', by simpa using g1, by simpa using g2, fun b => ?_⟩
      have := g3 (b + 1)
      simp only [foldD]
      rw [if_pos (by simp only [decide_eq_true_eq]; omega)]
      have e1 : (fun j => decide (j < b + 1 + i)) = (fun j => decide (j < b + (i + 1))) := by funext j; congr 2; omega
      rw [e1] at this
      simpa [makesAll, Nat.add_assoc] using this

theorem opnd_looks {o : Oper} {cur cur' : List AV} (h : ∀ t, t ∈ looksAt all o → cur.getD t .dead = cur'.getD t .dead) : ∀ x, x ∈ o.op.operands.toList → opnd cur x = opnd cur' x := by
  intro x hx
  cases x with
  | tmp t =>
    rw [opnd_tmp, opnd_tmp]
    refine h t (List.mem_append_left _ (List.mem_filterMap.2 ⟨.tmp t, hx, rfl⟩))
  | _ => rfl
theorem guard_looks {o : Oper} {j : Nat} {want : Bool} {cur cur' : List AV} (hg : o.guard = some (j, want)) (h : ∀ t, t ∈ looksAt all o → cur.getD t .dead = cur'.getD t .dead) : guardAt all cur j = guardAt all cur' j := by
  unfold guardAt
  cases hd : (all[j]?).bind (·.dst) with
  | none => rfl
  | some d =>
    have : d ∈ looksAt all o := List.mem_append_right _ (by simp [hg, hd])
    simp only [h d this]

theorem off_looks {o : Oper} {cur cur' : List AV} (h : ∀ t, t ∈ looksAt all o → cur.getD t .dead = cur'.getD t .dead) : offGuard all cur o = offGuard all cur' o := by
  unfold offGuard
  cases hg : o.guard with
  | none => rfl
  | some jw =>
    obtain ⟨j, want⟩ := jw
    simp only
    cases hd : (all[j]?).bind (·.dst) with
    | none => rfl
    | some d =>
      have : d ∈ looksAt all o := List.mem_append_right _ (by simp [hg, hd])
      simp only [h d this]

theorem dstep_loc {o : Oper} {nid : Nat} {cur cur' : List AV} {H H' : List AObj} {e : Eff} {fp : FP} (hd : dstep Γ orc all o nid cur H = some (e, fp)) (h : ∀ t, t ∈ looksAt all o → cur.getD t .dead = cur'.getD t .dead) (hr : SameAt H H' fp.rd) (hl : H.length = H'.length) :
    dstep Γ orc all o nid cur' H' = some (e, fp) := by
  have hc := opnd_looks h
  have run : ∀ {e : Eff} {fp : FP}, (match astep true Γ orc o.op cur H nid with
      | some (true, v, U) => some ((⟨o.dst, v, U⟩ : Eff), fpOf orc o cur nid U)
      | _ => none) = some (e, fp) → SameAt H H' fp.rd → (match astep true Γ orc o.op cur' H' nid with
      | some (true, v, U) => some ((⟨o.dst, v, U⟩ : Eff), fpOf orc o cur' nid U)
      | _ => none) = some (e, fp) := by
    intro e fp hm hr
    split at hm
    · rename_i v U ha
      cases hm
      have hl' := astep_look (Γ := Γ) (orc := orc) (nid := nid) hc (hr.mono fun n hn => List.mem_append_left _ hn) (fun j hj => hr _ (List.mem_append_right _ (List.mem_map.2 ⟨j, List.mem_range.2 hj, rfl⟩))) hl
      rw [← hl', ha]
      simp only [fpOf]
      rw [lookRefs_eq hc]
    · cases hm
  unfold dstep at hd ⊢
  rw [← off_looks h]
  rcases bif_some' hd with ⟨hoff, hd⟩ | ⟨hoff, hd⟩
  · simp only [hoff, cond_true]; exact hd
  simp only [hoff, cond_false]
  cases hg : o.guard with
  | none =>
    rw [hg] at hd
    exact run hd hr
  | some jw =>
    obtain ⟨j, want⟩ := jw
    rw [hg] at hd
    simp only at hd ⊢
    rw [← guard_looks hg h]
    cases hgd : guardAt all cur j with
    | none => rw [hgd] at hd; cases hd
    | some db =>
      obtain ⟨d, b⟩ := db
      rw [hgd] at hd
      simp only at hd ⊢
      cases hbw : b == want with
      | true =>
        rw [hbw] at hd
        exact run hd hr
      | false =>
        rw [hbw] at hd
        exact hd
theorem dstep_eff {o : Oper} {nid : Nat} {cur : List AV} {H : List AObj} {e : Eff} {fp : FP} (hd : dstep Γ orc all o nid cur H = some (e, fp)) : e.dst = o.dst ∧ ∀ x, x ∈ e.U → x.1 ∈ fp.wr := by
  have run : ∀ {e : Eff} {fp : FP}, (match astep true Γ orc o.op cur H nid with
      | some (true, v, U) => some ((⟨o.dst, v, U⟩ : Eff), fpOf orc o cur nid U)
      | _ => none) = some (e, fp) → e.dst = o.dst ∧ ∀ x, x ∈ e.U → x.1 ∈ fp.wr := by
    intro e fp hm
    split at hm
    · cases hm
      exact ⟨rfl, fun x hx => List.mem_map.2 ⟨x, hx, rfl⟩⟩
    · cases hm
  unfold dstep at hd
  rcases bif_some' hd with ⟨hoff, hd⟩ | ⟨hoff, hd⟩
  · cases hd
    exact ⟨rfl, fun x hx => by cases hx⟩
  cases hg : o.guard with
  | none =>
    rw [hg] at hd
    exact run hd
  | some jw =>
    obtain ⟨j, want⟩ := jw
    rw [hg] at hd
    simp only at hd
    cases hgd : guardAt all cur j with
    | none => rw [hgd] at hd; cases hd
    | some db =>
      obtain ⟨d, b⟩ := db
      rw [hgd] at hd
      simp only at hd
      cases hbw : b == want with
      | true =>
        rw [hbw] at hd
        exact run hd
      | false =>
        rw [hbw] at hd
        cases hd
        exact ⟨rfl, fun x hx => by cases hx⟩

/-- One operation, in the model. -/
theorem dstep_wp (hΓ : GamOk P Γ) (hO : OrcsOk P orc) {rd : Option Nat} {c : Ctx P} {w : World} {ρ : Rho} {st : ASt} {a : Act} {TS : Cal} {ops : Array Oper} (hops : ops.toList = all) {i nid : Nat} {o : Oper} (hi : ops[i]? = some o) {e : Eff} {fp : FP}
    (hd : dstep Γ orc all o nid st.cur st.heap = some (e, fp)) (h : StRel c w ρ st a TS) {K : Act → World → Prop} {Q : Exit → Act → World → Prop}
    (hK : ∀ a' w' ρ', StRel c w' ρ' { st with cur := (e.app (st.cur, st.heap)).1, heap := (e.app (st.cur, st.heap)).2 } a' TS → K a' w') : wpOpIn (Fe rd) 0 P ops Q i K a w := by
  have run : Region.wanted o (yielded ops a.tmps) = true → (match astep true Γ orc o.op st.cur st.heap nid with
      | some (true, v, U) => some ((⟨o.dst, v, U⟩ : Eff), fpOf orc o st.cur nid U)
      | _ => none) = some (e, fp) → wpOpIn (Fe rd) 0 P ops Q i K a w := by
    intro hw hm
    split at hm
    · rename_i v U ha
      cases hm
      unfold wpOpIn
      rw [hi]
      simp only [hw, if_true]
      exact astep_ok hΓ hO h.ok h.cur ha (astep_noDefer ha) rd K Q (fun val w' ρ' hv T => hK _ w' ρ' (h.step T hv))
    · cases hm
  unfold dstep at hd
  rcases bif_some' hd with ⟨hoff, hd⟩ | ⟨hoff, hd⟩
  · cases hd
    unfold wpOpIn
    rw [hi]
    simp only [off_val (w := w) (H := st.heap) (ρ := ρ) hops hoff h.cur, Bool.false_eq_true, if_false]
    exact ⟨fun _ _ => trivial, hK _ w ρ ⟨h.ok, h.cur.put und_rv, h.stk, by rw [put_defers]; exact h.defers⟩⟩
  cases hg : o.guard with
  | none =>
    rw [hg] at hd
    exact run (by simp [Region.wanted, hg]) hd
  | some jw =>
    obtain ⟨j, want⟩ := jw
    rw [hg] at hd
    simp only at hd
    cases hgd : guardAt all st.cur j with
    | none => rw [hgd] at hd; cases hd
    | some db =>
      obtain ⟨d, b⟩ := db
      rw [hgd] at hd
      simp only at hd
      obtain ⟨hy, _, _⟩ := guard_val (w := w) (H := st.heap) (ρ := ρ) hops hgd h.cur
      have hw : Region.wanted o (yielded ops a.tmps) = (b == want) := by simp [Region.wanted, hg, hy]
      cases hbw : b == want with
      | true =>
        rw [hbw] at hd
        exact run (by rw [hw, hbw]) hd
      | false =>
        rw [hbw] at hd
        cases hd
        unfold wpOpIn
        rw [hi]
        simp only [hw, hbw, Bool.false_eq_true, if_false]
        exact ⟨fun _ _ => trivial, hK _ w ρ ⟨h.ok, h.cur.put und_rv, h.stk, by rw [put_defers]; exact h.defers⟩⟩
end
end Go.AI

/- Regions whose order is drawn are sound. -/
noncomputable section
namespace Go.AI
open Go Go.RowKit

theorem testBit_fold (acc : List Nat) (i : Nat) : ∀ (l : List Edge) (s : Nat), (l.foldl (fun s e => if Region.binds .any e then s ||| 2 ^ e.on ||| acc.getD e.on 0 else s) s).testBit i = true → s.testBit i = true ∨ ∃ e, e ∈ l ∧ Region.binds .any e = true ∧ (e.on = i ∨ (acc.getD e.on 0).testBit i = true)
  | [], s, h => .inl h
  | e :: l, s, h => by
    simp only [List.foldl_cons] at h
    rcases testBit_fold acc i l _ h with h | ⟨f, hf, h⟩
    · split at h
      · rename_i hb
        simp only [Nat.testBit_or, Bool.or_eq_true, Nat.testBit_two_pow, decide_eq_true_eq] at h
        rcases h with (h | h) | h
        · exact .inl h
        · exact .inr ⟨e, List.mem_cons_self, hb, .inl h⟩
        · exact .inr ⟨e, List.mem_cons_self, hb, .inr h⟩
      · exact .inl h
    · exact .inr ⟨f, List.mem_cons_of_mem _ hf, h⟩

theorem befores_spec : ∀ (l : List Oper) (acc : List Nat), (∀ j, j < acc.length → (befores l acc).getD j 0 = acc.getD j 0) ∧
    ∀ j o i, l[j]? = some o → ((befores l acc).getD (acc.length + j) 0).testBit i = true → ∃ e, e ∈ o.after.toList ∧ Region.binds .any e = true ∧ (e.on = i ∨ ((befores l acc).getD e.on 0).testBit i = true)
  | [], acc => ⟨fun j _ => rfl, fun j o i h => by simp at h⟩
  | o :: l, acc => by
    obtain ⟨h1, h2⟩ := befores_spec l (acc ++ [o.after.toList.foldl (fun s e => if Region.binds .any e then s ||| 2 ^ e.on ||| acc.getD e.on 0 else s) 0])
    refine ⟨fun j hj => ?_, fun j o' i hj hb => ?_⟩
    · simp only [befores]
      rw [h1 j (by simp; omega)]
      simp [List.getD, List.getElem?_append_left hj]
    · simp only [befores] at hb ⊢
      cases j with
      | zero =>
        simp only [List.getElem?_cons_zero, Option.some.injEq] at hj
        subst hj
        rw [Nat.add_zero, h1 acc.length (by simp)] at hb
        have e1 : (acc ++ [o.after.toList.foldl (fun s e => if Region.binds .any e then s ||| 2 ^ e.on ||| acc.getD e.on 0 else s) 0]).getD acc.length 0 = o.after.toList.foldl (fun s e => if Region.binds .any e then s ||| 2 ^ e.on ||| acc.getD e.on 0 else s) 0 := by simp [List.getD]
        rw [e1] at hb
        rcases testBit_fold acc i _ _ hb with hz | ⟨e, he, hbd, hor⟩
        · simp at hz
        · refine ⟨e, he, hbd, hor.imp id fun ht => ?_⟩
          have hlt : e.on < acc.length := by
            rcases Nat.lt_or_ge e.on acc.length with h | h
            · exact h
            · simp [List.getD, List.getElem?_eq_none h] at ht
          rw [h1 e.on (by simp; omega)]
          simpa [List.getD, List.getElem?_append_left hlt] using ht
      | succ j =>
        refine h2 j o' i (by simpa using hj) ?_
        simpa [Nat.add_assoc, Nat.add_comm 1 j] using hb

section
variable {P : Program} {Γ : Gam} {orc : Orcs}

theorem ready_mem {ops : Array Oper} {listed : Array Bool} {i : Nat} (h : i ∈ Region.ready .any ops listed) : ∃ o, ops[i]? = some o ∧ listed.getD i true = false ∧ ∀ e, e ∈ o.after.toList → Region.binds .any e = true → listed.getD e.on false = true := by
  unfold Region.ready at h
  rw [List.mem_filter] at h
  obtain ⟨hr, hc⟩ := h
  have hlt := List.mem_range.1 hr
  simp only [Bool.and_eq_true, Bool.not_eq_true', Array.getElem?_eq_getElem hlt, Option.map_some, Option.getD_some] at hc
  refine ⟨ops[i], Array.getElem?_eq_getElem hlt, hc.1, fun e he hb => ?_⟩
  have := Array.all_eq_true'.1 hc.2 e (by simpa using he)
  simpa [hb] using this

/-- What stands at a place of the text, among the first operations. -/
structure Laid (Γ : Gam) (orc : Orcs) (all : List Oper) (b nid : Nat) (s : List AV × List AObj) (es : List Eff) (fs : List FP) : Prop where
  len : es.length = b
  le : b ≤ all.length
  at_ : ∀ i o, i < b → all[i]? = some o → ∃ e fp, es[i]? = some e ∧ fs[i]? = some fp ∧ dstep Γ orc all o (nid + makesAll orc (all.take i)) (foldD es (fun j => decide (j < i)) 0 s).1 (foldD es (fun j => decide (j < i)) 0 s).2 = some (e, fp)
  indep : indepTo b all (befores all []) fs = true

theorem Laid.pair {all : List Oper} {b nid : Nat} {s : List AV × List AObj} {es : List Eff} {fs : List FP} (h : Laid Γ orc all b nid s es fs) {i j : Nat} (hij : i < j) (hj : j < b) (hb : ((befores all []).getD j 0).testBit i = false) :
    apart all (all.getD i default) (all.getD j default) = true ∧ (fs.getD i default).indep (fs.getD j default) = true := by
  exact indepTo_pair h.indep hij hj hb

/-- Operations that may change places do not touch each other. -/
structure Free (all : List Oper) (o o' : Oper) (fp fp' : FP) (e e' : Eff) : Prop where
  apart : Apart e e'
  slot : ∀ t, e'.dst = some t → t ∉ looksAt all o
  obj : ∀ x, x ∈ e'.U → x.1 ∉ fp.rd

theorem Laid.free {all : List Oper} {b nid : Nat} {s : List AV × List AObj} {es : List Eff} {fs : List FP} (h : Laid Γ orc all b nid s es fs) {i j : Nat} {o o' : Oper} {e e' : Eff} {fp fp' : FP} (hi : all[i]? = some o) (hj : all[j]? = some o')
    (he : es[i]? = some e) (he' : es[j]? = some e') (hf : fs[i]? = some fp) (hf' : fs[j]? = some fp')
    (hij : (i < j ∧ ((befores all []).getD j 0).testBit i = false) ∨ (j < i ∧ ((befores all []).getD i 0).testBit j = false)) : Free all o o' fp fp' e e' := by
  have hil : i < b := by have := (List.getElem?_eq_some_iff.1 he).1; have := h.len; omega
  have hjl : j < b := by have := (List.getElem?_eq_some_iff.1 he').1; have := h.len; omega
  have eff : ∀ {i : Nat} {o : Oper} {e : Eff} {fp : FP}, all[i]? = some o → es[i]? = some e → fs[i]? = some fp → e.dst = o.dst ∧ ∀ x, x ∈ e.U → x.1 ∈ fp.wr := by
    intro i o e fp h1 h2 h3
    obtain ⟨e1, fp1, g1, g2, g3⟩ := h.at_ i o (by have := (List.getElem?_eq_some_iff.1 h2).1; have := h.len; omega) h1
    rw [h2] at g1; rw [h3] at g2
    cases g1; cases g2
    exact dstep_eff g3
  obtain ⟨d1, w1⟩ := eff hi he hf
  obtain ⟨d2, w2⟩ := eff hj he' hf'
  have gi : all.getD i default = o := by simp [List.getD, hi]
  have gj : all.getD j default = o' := by simp [List.getD, hj]
  have fi : fs.getD i default = fp := by simp [List.getD, hf]
  have fj : fs.getD j default = fp' := by simp [List.getD, hf']
  rcases hij with ⟨hlt, hb⟩ | ⟨hlt, hb⟩
  · obtain ⟨p1, p2⟩ := h.pair hlt hjl hb
    rw [gi, gj] at p1
    rw [fi, fj] at p2
    simp only [AI.apart, FP.indep, Bool.and_eq_true, List.all_eq_true, Bool.not_eq_true', Bool.or_eq_false_iff] at p1 p2
    refine ⟨⟨fun d hd => ?_, fun x hx y hy hxy => ?_⟩, fun t ht hl => ?_, fun x hx hr => ?_⟩
    · rw [d1] at hd
      rw [hd] at p1
      rw [d2]
      have := p1.1
      simp only [Bool.and_eq_true, bne_iff_ne] at this
      exact this.2
    · have := (p2.1 x.1 (w1 x hx)).2
      rw [hxy] at this
      simp [w2 y hy] at this
    · rw [d2] at ht
      rw [ht] at p1
      have := p1.2
      simp [hl] at this
    · have := p2.2 x.1 (w2 x hx)
      simp [hr] at this
  · obtain ⟨p1, p2⟩ := h.pair hlt hil hb
    rw [gi, gj] at p1
    rw [fi, fj] at p2
    simp only [AI.apart, FP.indep, Bool.and_eq_true, List.all_eq_true, Bool.not_eq_true', Bool.or_eq_false_iff] at p1 p2
    refine ⟨⟨fun d hd e2 => ?_, fun x hx y hy hxy => ?_⟩, fun t ht hl => ?_, fun x hx hr => ?_⟩
    · rw [d1] at hd
      rw [d2] at e2
      rw [e2] at p1
      have := p1.1
      simp only [Bool.and_eq_true, bne_iff_ne] at this
      exact this.2 hd
    · have := (p2.1 y.1 (w2 y hy)).2
      rw [← hxy] at this
      simp [w1 x hx] at this
    · rw [d2] at ht
      rw [ht] at p1
      have := p1.1
      simp [hl] at this
    · have := (p2.1 x.1 (w2 x hx)).1
      simp [hr] at this

theorem tail_edges {b : Nat} {all : List Oper} (ht : tailOk b all = true) : b < all.length ∧ (∀ i, i < b → ((befores all []).getD b 0).testBit i = true) ∧ ∀ j o, b < j → all[j]? = some o → ∃ e, e ∈ o.after.toList ∧ Region.binds .any e = true ∧ e.on + 1 = j := by
  simp only [tailOk, Bool.and_eq_true, decide_eq_true_eq, List.all_eq_true] at ht
  obtain ⟨⟨h1, h2⟩, h3⟩ := ht
  refine ⟨h1, fun i hi => h2 i (List.mem_range.2 hi), fun j o hj ho => ?_⟩
  have hjl := (List.getElem?_eq_some_iff.1 ho).1
  have := h3 j (List.mem_range.2 hjl)
  have e1 : all.getD j default = o := by simp [List.getD, ho]
  rw [e1, Bool.or_eq_true, decide_eq_true_eq] at this
  rcases this with h | h
  · omega
  · obtain ⟨e, he, hb⟩ := List.any_eq_true.1 h
    rw [Bool.and_eq_true, decide_eq_true_eq] at hb
    exact ⟨e, he, hb.1, hb.2⟩
/-- Where nothing is ready, all is listed. -/
theorem full_ready {ops : Array Oper} (hE : edgesOk ops.toList = true) : ∀ (listed : Array Bool), listed.size = ops.size → Region.ready .any ops listed = [] → ∀ i, i < ops.size → listed.getD i false = true := by
  intro listed hsz hr i
  induction i using Nat.strongRecOn with
  | _ i ih =>
    intro hi
    cases hl : listed.getD i false with
    | true => rfl
    | false =>
      exfalso
      have hin : i ∈ Region.ready .any ops listed := by
        unfold Region.ready
        rw [List.mem_filter]
        refine ⟨List.mem_range.2 hi, ?_⟩
        have hlt : i < listed.size := by omega
        have e1 : listed.getD i true = false := by
          simp only [Array.getD, hlt, dif_pos] at hl ⊢; exact hl
        simp only [e1, Bool.not_false, Bool.true_and, Array.getElem?_eq_getElem hi, Option.map_some, Option.getD_some]
        rw [Array.all_eq_true']
        intro e he
        have hlast : Region.binds .any e = false ∨ e.on < i := by
          unfold edgesOk at hE
          have := List.all_eq_true.1 hE i (List.mem_range.2 (by simpa using hi))
          have e2 : ops.toList.getD i default = ops[i] := by simp [List.getD, hi]
          rw [e2] at this
          have := List.all_eq_true.1 this e (by simpa using he)
          simpa using this
        rcases hlast with hlast | hlast
        · rw [hlast]; rfl
        rw [ih e.on hlast (by omega)]
        simp
      rw [hr] at hin; cases hin

theorem count_pos_listed {listed : Array Bool} {n i : Nat} (hsz : listed.size = n) (hi : i < n) (hl : listed.getD i true = false) : 0 < listed.toList.count false := by
  have hlt : i < listed.size := by omega
  simp only [Array.getD, hlt, dif_pos] at hl
  have hm : false ∈ listed.toList := by
    rw [← hl]; simp
  exact List.count_pos_iff.2 hm
theorem count_set {listed : Array Bool} {i : Nat} (hlt : i < listed.size) (hlf : listed.getD i false = false) : (listed.setIfInBounds i true).toList.count false + 1 = listed.toList.count false := by
  have hp : 0 < listed.toList.count false := count_pos_listed rfl hlt (by simp only [Array.getD, hlt, dif_pos] at hlf ⊢; exact hlf)
  rw [Array.toList_setIfInBounds, List.count_set (by simpa using hlt)]
  have e1 : listed.toList[i]'(by simpa using hlt) = false := by
    simp only [Array.getD, hlt, dif_pos] at hlf; simpa using hlf
  rw [e1, if_pos (show (false == false) = true from rfl), if_neg (show ¬ (true == false) = true by decide)]
  omega
theorem get_set {listed : Array Bool} {i : Nat} (hlt : i < listed.size) (j : Nat) : (listed.setIfInBounds i true).getD j false = (listed.getD j false || j == i) := by
  simp only [Array.getD_eq_getD_getElem?, Array.getElem?_setIfInBounds]
  by_cases hji : i = j
  · subst hji; simp [hlt]
  · have : (j == i) = false := by simpa using Ne.symm hji
    simp [hji, this]
/-- Behind the first operations there is one order. -/
theorem tail_go {rd : Option Nat} {ops : Array Oper} (hE : edgesOk ops.toList = true) {b : Nat} (hb : b = ops.size ∨ tailOk b ops.toList = true) {Q : Exit → Act → World → Prop} :
    ∀ (fuel j : Nat) (listed : Array Bool) (a : Act) (w : World), listed.size = ops.size → listed.toList.count false ≤ fuel → b ≤ j → (∀ i, i < ops.size → listed.getD i false = decide (i < j)) →
      wpListIn (Fe rd) 0 P ops Q (ops.toList.drop j) a w → wpAnyIn (Fe rd) 0 P .any ops Q fuel listed a w := by
  have fin : ∀ (j : Nat) (listed : Array Bool) (a : Act) (w : World), listed.size = ops.size → (∀ i, i < ops.size → listed.getD i false = decide (i < j)) → Region.ready .any ops listed = [] → wpListIn (Fe rd) 0 P ops Q (ops.toList.drop j) a w → Q .normal a w := by
    intro j listed a w hsz hl hr hw
    have : ops.size ≤ j := by
      rcases Nat.lt_or_ge j ops.size with h | h
      · have h1 := full_ready hE listed hsz hr j h
        rw [hl j h] at h1; simp at h1
      · exact h
    rw [List.drop_eq_nil_of_le (by simpa using this)] at hw
    exact hw
  intro fuel
  induction fuel with
  | zero =>
    intro j listed a w hsz hcnt hbj hl hw
    have hr : Region.ready .any ops listed = [] := by
      cases hr : Region.ready .any ops listed with
      | nil => rfl
      | cons i r =>
        exfalso
        obtain ⟨o, ho, hl, _⟩ := ready_mem (i := i) (listed := listed) (ops := ops) (by rw [hr]; exact List.mem_cons_self)
        have := count_pos_listed hsz (Array.getElem?_eq_some_iff.1 ho).1 hl
        omega
    exact ⟨hr, fin j listed a w hsz hl hr hw⟩
  | succ fuel ih =>
    intro j listed a w hsz hcnt hbj hl hw
    refine ⟨fun hr => fin j listed a w hsz hl hr hw, fun i hi => ?_⟩
    obtain ⟨o, ho, hlt', hedge⟩ := ready_mem hi
    have hin := (Array.getElem?_eq_some_iff.1 ho).1
    have hlt : i < listed.size := by omega
    have hlf : listed.getD i false = false := by simp only [Array.getD, hlt, dif_pos] at hlt' ⊢; exact hlt'
    have hji : j ≤ i := by rw [hl i hin] at hlf; simpa using hlf
    have hij : i = j := by
      rcases Nat.lt_or_ge j i with h | h
      · exfalso
        rcases hb with rfl | hb
        · omega
        · obtain ⟨e, he, hbd, hon⟩ := (tail_edges hb).2.2 i o (by omega) (by simpa using ho)
          have := hedge e he hbd
          rw [hl e.on (by omega)] at this
          simp at this; omega
      · omega
    subst hij
    have hdrop : ops.toList.drop i = o :: ops.toList.drop (i + 1) := by
      rw [List.drop_eq_getElem_cons (by simpa using hin)]
      congr 1
      have := (Array.getElem?_eq_some_iff.1 ho).2
      simpa using this
    rw [hdrop] at hw
    have next : ∀ a w, wpListIn (Fe rd) 0 P ops Q (ops.toList.drop (i + 1)) a w → wpAnyIn (Fe rd) 0 P .any ops Q fuel (listed.setIfInBounds i true) a w := fun a w hw => by
      have := count_set hlt hlf
      refine ih (i + 1) _ a w (by simpa using hsz) (by omega) (by omega) (fun k hk => ?_) hw
      rw [get_set hlt, hl k hk]
      by_cases h1 : k < i
      · simp [h1, Nat.lt_succ_of_lt h1]
      · by_cases h2 : k = i
        · subst h2; simp
        · have : ¬ k < i + 1 := by omega
          simp [h1, h2, this]
    unfold wpListIn at hw
    unfold wpOpIn
    rw [ho]
    simp only
    split at hw
    · rename_i hwt
      rw [if_pos hwt]
      exact Oper.wpIn_mono next hw
    · rename_i hwt
      rw [if_neg hwt]
      exact ⟨hw.1, next _ _ hw.2⟩

theorem any_ok (hΓ : GamOk P Γ) (hO : OrcsOk P orc) {rd : Option Nat} {c : Ctx P} {TS : Cal} {st : ASt} {ops : Array Oper} (hE : edgesOk ops.toList = true) {b nid : Nat} (hb : b = ops.size ∨ tailOk b ops.toList = true) {s0 : List AV × List AObj} {es : List Eff} {fs : List FP} (hL : Laid Γ orc ops.toList b nid s0 es fs) {Q : Exit → Act → World → Prop}
    (hQ : ∀ a w ρ, StRel c w ρ { st with cur := (es.foldl (fun s e => e.app s) s0).1, heap := (es.foldl (fun s e => e.app s) s0).2 } a TS → wpListIn (Fe rd) 0 P ops Q (ops.toList.drop b) a w) :
    ∀ (fuel : Nat) (listed : Array Bool) (a : Act) (w : World) (ρ : Rho), listed.size = ops.size → listed.toList.count false ≤ fuel → (∀ j, listed.getD j false = true → j < b) →
      (∀ j, listed.getD j false = true → ∀ i, ((befores ops.toList []).getD j 0).testBit i = true → listed.getD i false = true) →
      StRel c w ρ { st with cur := (foldD es (fun j => listed.getD j false) 0 s0).1, heap := (foldD es (fun j => listed.getD j false) 0 s0).2 } a TS → wpAnyIn (Fe rd) 0 P .any ops Q fuel listed a w := by
  have hbs : b ≤ ops.size := by have := hL.le; simpa using this
  have done : ∀ (fuel : Nat) (listed : Array Bool) (a : Act) (w : World) (ρ : Rho), listed.size = ops.size → listed.toList.count false ≤ fuel → (∀ j, listed.getD j false = true → j < b) → (∀ j, j < b → listed.getD j false = true) →
      StRel c w ρ { st with cur := (foldD es (fun j => listed.getD j false) 0 s0).1, heap := (foldD es (fun j => listed.getD j false) 0 s0).2 } a TS → wpAnyIn (Fe rd) 0 P .any ops Q fuel listed a w := by
    intro fuel listed a w ρ hsz hcnt hlow hall h
    refine tail_go hE hb fuel b listed a w hsz hcnt (Nat.le_refl _) (fun i _ => ?_) (hQ a w ρ ?_)
    · cases hl : listed.getD i false with
      | true => simp [hlow i hl]
      | false =>
        have : ¬ i < b := fun hi => by rw [hall i hi] at hl; cases hl
        simp [this]
    · have e1 := foldD_all es (fun j => listed.getD j false) 0 s0 (fun j _ hj => hall j (by have := hL.len; omega))
      rw [e1] at h
      exact h
  intro fuel
  induction fuel with
  | zero =>
    intro listed a w ρ hsz hcnt hlow hcl h
    refine done 0 listed a w ρ hsz hcnt hlow (fun j hj => ?_) h
    have hjl : j < listed.size := by omega
    cases hl : listed.getD j false with
    | true => rfl
    | false =>
      have := count_pos_listed rfl hjl (by simp only [Array.getD, hjl, dif_pos] at hl ⊢; exact hl)
      omega
  | succ fuel ih =>
    intro listed a w ρ hsz hcnt hlow hcl h
    by_cases hall : ∀ j, j < b → listed.getD j false = true
    · exact done (fuel + 1) listed a w ρ hsz hcnt hlow hall h
    refine ⟨fun hr => absurd (fun j hj => full_ready hE listed hsz hr j (by omega)) hall, fun i hi => ?_⟩
    obtain ⟨o, ho, hl, hedge⟩ := ready_mem hi
    have hio : ops.toList[i]? = some o := by simpa using ho
    have hin := (Array.getElem?_eq_some_iff.1 ho).1
    have hlt : i < listed.size := by omega
    have hlf : listed.getD i false = false := by simp only [Array.getD, hlt, dif_pos] at hl ⊢; exact hl
    have hbef : ∀ k, ((befores ops.toList []).getD i 0).testBit k = true → listed.getD k false = true := by
      intro k hk
      obtain ⟨ed, h1, h2, h3⟩ := (befores_spec ops.toList []).2 i o k hio (by simpa using hk)
      rcases h3 with h3 | h3
      · rw [← h3]; exact hedge ed h1 h2
      · exact hcl ed.on (hedge ed h1 h2) k h3
    have hib : i < b := by
      rcases Nat.lt_or_ge i b with h | hge
      · exact h
      · exfalso
        rcases hb with hb | hb
        · omega
        · obtain ⟨_, t2, t3⟩ := tail_edges hb
          rcases Nat.lt_or_ge b i with hlt2 | hge2
          · obtain ⟨e, he, hbd, hon⟩ := t3 i o hlt2 hio
            have := hlow e.on (hedge e he hbd)
            omega
          · have : i = b := by omega
            subst this
            exact hall fun j hj => hbef j (t2 j hj)
    obtain ⟨e, fp, he, hf, hd⟩ := hL.at_ i o hib hio
    -- what differs from the text's order does not matter to the operation
    have free : ∀ j e', es[j]? = some e' → (j < i ∧ listed.getD j false = false) ∨ (i < j ∧ listed.getD j false = true) → ∃ o' fp', Free ops.toList o o' fp fp' e e' := by
      intro j e' he' hj
      have hjb : j < b := by have := (List.getElem?_eq_some_iff.1 he').1; have := hL.len; omega
      have hjl : j < ops.toList.length := by have := hL.le; omega
      have hoj := List.getElem?_eq_getElem hjl
      obtain ⟨e2, fp', g1, g2, _⟩ := hL.at_ j _ hjb hoj
      refine ⟨_, fp', hL.free hio hoj he he' hf g2 ?_⟩
      rcases hj with ⟨h1, h2⟩ | ⟨h1, h2⟩
      · refine .inr ⟨h1, ?_⟩
        cases hb : ((befores ops.toList []).getD i 0).testBit j with
        | false => rfl
        | true => rw [hbef j hb] at h2; cases h2
      · refine .inl ⟨h1, ?_⟩
        cases hb : ((befores ops.toList []).getD j 0).testBit i with
        | false => rfl
        | true => rw [hcl j h2 i hb] at hlf; cases hlf
    have agree : ∀ j e', es[j]? = some e' → (∃ t, e'.dst = some t ∧ t ∈ looksAt ops.toList o) ∨ (∃ x, x ∈ e'.U ∧ x.1 ∈ fp.rd) → decide (j < i) = listed.getD j false := by
      intro j e' he' hor
      have no : ¬ ((j < i ∧ listed.getD j false = false) ∨ (i < j ∧ listed.getD j false = true)) := fun hj => by
        obtain ⟨o', fp', hF⟩ := free j e' he' hj
        rcases hor with ⟨t, h1, h2⟩ | ⟨x, h1, h2⟩
        · exact hF.slot t h1 h2
        · exact hF.obj x h1 h2
      rcases Nat.lt_trichotomy j i with h1 | h1 | h1
      · cases hb : listed.getD j false with
        | true => simp [h1]
        | false => exact absurd (.inl ⟨h1, hb⟩) no
      · subst h1; rw [hlf]; simp
      · cases hb : listed.getD j false with
        | false => simp; omega
        | true => exact absurd (.inr ⟨h1, hb⟩) no
    have hd' := dstep_loc (cur' := (foldD es (fun j => listed.getD j false) 0 s0).1) (H' := (foldD es (fun j => listed.getD j false) 0 s0).2) hd
      (fun t ht => foldD_slot es _ _ 0 s0 s0 rfl rfl (fun j e' he' hdt => by rw [Nat.zero_add]; exact agree j e' he' (.inl ⟨t, hdt, ht⟩)))
      (fun n hn => foldD_obj es _ _ 0 s0 s0 rfl rfl (fun j e' he' hx => by
        obtain ⟨x, h1, rfl⟩ := hx
        rw [Nat.zero_add]; exact agree j e' he' (.inr ⟨x, h1, hn⟩)))
      (by rw [(foldD_len _ _ _ _).2, (foldD_len _ _ _ _).2])
    have hget := get_set hlt
    refine dstep_wp (st := { st with cur := _, heap := _ }) hΓ hO rfl ho hd' h (fun a' w' ρ' h' => ih _ a' w' ρ' (by simpa using hsz) ?_ ?_ ?_ ?_)
    · have := count_set hlt hlf
      omega
    · intro j hj
      rw [hget, Bool.or_eq_true] at hj
      rcases hj with hj | hj
      · exact hlow j hj
      · have : j = i := by simpa using hj
        omega
    · intro j hj k hk
      rw [hget] at hj ⊢
      rw [Bool.or_eq_true] at hj ⊢
      left
      rcases hj with hj | hj
      · exact hcl j hj k hk
      · have : j = i := by simpa using hj
        subst this
        exact hbef k hk
    · have e2 : foldD es (fun j => (listed.setIfInBounds i true).getD j false) 0 s0 = e.app (foldD es (fun j => listed.getD j false) 0 s0) :=
        foldD_add (k := i) hlf hget es 0 s0 (Nat.zero_le _) (by simpa using he) (fun j e' he' hlt hDj => by
          rw [Nat.zero_add] at hlt hDj
          obtain ⟨_, _, hF⟩ := free j e' he' (.inr ⟨hlt, hDj⟩)
          exact hF.apart)
      rw [e2]
      exact h'

theorem cut_ok (all : List Oper) : cutAt all ≤ all.length ∧ (cutAt all = all.length ∨ tailOk (cutAt all) all = true) := by
  unfold cutAt
  split
  · rename_i b hb
    cases ht : tailOk b all with
    | true => exact ⟨Nat.le_of_lt (tail_edges ht).1, .inr ht⟩
    | false => exact ⟨Nat.le_refl _, .inl rfl⟩
  · cases ht : (voidLast all && tailOk (all.length - 1) all) with
    | true =>
      rw [Bool.and_eq_true] at ht
      exact ⟨Nat.sub_le _ _, .inr ht.2⟩
    | false => exact ⟨Nat.le_refl _, .inl rfl⟩
theorem drawn_ok (hm : P.follows .mixedOrders = true) (hΓ : GamOk P Γ) (hO : OrcsOk P orc) : DrawnOk P Γ orc := by
  refine ⟨hm, ?_⟩
  intro R id ops c w ρ st a TS rd k r Q hE hx h hn
  obtain ⟨es, fs, hT, hk⟩ := xopsD_trace _ _ _ _ _ hx
  obtain ⟨hi, hk⟩ := ite_some hk
  obtain ⟨l1, _, hat⟩ := trace_get hT
  obtain ⟨c1, c2⟩ := cut_ok ops.toList
  have c2 : cutAt ops.toList = ops.size ∨ tailOk (cutAt ops.toList) ops.toList = true := by simpa using c2
  generalize cutAt ops.toList = b at *
  have hL : Laid Γ orc ops.toList b st.heap.length (st.cur, pad orc (ops.toList.take b) st.heap) es fs := ⟨by rw [l1, List.length_take]; omega, c1, fun i o hib hi => by
    obtain ⟨e, fp, g1, g2, g3⟩ := hat i o (by rw [List.getElem?_take_of_lt hib]; exact hi)
    have := g3 0
    simp only [Nat.zero_add, List.take_take, Nat.min_eq_left (Nat.le_of_lt hib)] at this
    exact ⟨e, fp, g1, g2, this⟩, by simpa using hi⟩
  have h1 := h.heap (Tr.pad h.ok (makesAll orc (ops.toList.take b)))
  have h2 : StRel c w.drew ρ { st with heap := pad orc (ops.toList.take b) st.heap } a TS := h1.heap (Tr.drew h1.ok)
  refine wpIn_region_any hm (any_ok (st := st) hΓ hO hE c2 hL (fun a w ρ h' => hn _ a w ρ hk h') ops.size _ a _ ρ (by simp) (by simp) (fun j hj => ?_) (fun j hj => ?_) ?_)
  · simp [Array.getD_eq_getD_getElem?, Array.getElem?_replicate] at hj
    split at hj <;> simp at hj
  · simp [Array.getD_eq_getD_getElem?, Array.getElem?_replicate] at hj
    split at hj <;> simp at hj
  · rw [foldD_none es _ 0 _ (fun j _ => by simp only [Array.getD_eq_getD_getElem?, Array.getElem?_replicate]; split <;> rfl)]
    exact h2
end
end Go.AI

/- Arrays and structs of plain data are compared. -/
noncomputable section
namespace Go.AI
open Go Go.RowKit

mutual
/-- Does a type read as plain data of a shape? -/
def rdB (P : Program) : Sch → TypeId → Bool
  | .int k, t => P.cellsOf t == 1 && match P.underlying t with | some (.int j) => j == k | _ => false
  | .bool, t => P.cellsOf t == 1 && match P.underlying t with | some .bool => true | _ => false
  | .str, t => P.cellsOf t == 1 && match P.underlying t with | some .string => true | _ => false
  | .slc s, t => P.cellsOf t == 1 && match P.underlying t with | some (.slice e) => rdB P s e && decide (0 < s.cells) | _ => false
  | .arr n s, t => P.cellsOf t == n * s.cells && match P.underlying t with | some (.array m e) => m == n && rdB P s e | _ => false
  | .pair a b, t => P.cellsOf t == a.cells + b.cells && match P.underlying t with
    | some (.struct fs) => match fs.toList with
      | f :: r => f.offset == 0 && rdB P a f.type && rdF P b r a.cells
      | [] => false
    | _ => false
  | .unit, t => P.cellsOf t == 0 && match P.underlying t with | some (.struct fs) => fs.size == 0 | _ => false
def rdF (P : Program) : Sch → List Field → Nat → Bool
  | .pair a b, f :: r, off => f.offset == off && rdB P a f.type && rdF P b r (off + a.cells)
  | .unit, [], _ => true
  | _, _, _ => false
end

theorem rdB_cells {P : Program} : ∀ {s : Sch} {t : TypeId}, rdB P s t = true → P.cellsOf t = s.cells
  | .int _, t, h => by simp only [rdB, Bool.and_eq_true, beq_iff_eq] at h; exact h.1
  | .bool, t, h => by simp only [rdB, Bool.and_eq_true, beq_iff_eq] at h; exact h.1
  | .str, t, h => by simp only [rdB, Bool.and_eq_true, beq_iff_eq] at h; exact h.1
  | .slc _, t, h => by simp only [rdB, Bool.and_eq_true, beq_iff_eq] at h; exact h.1
  | .arr _ _, t, h => by simp only [rdB, Bool.and_eq_true, beq_iff_eq] at h; exact h.1
  | .pair _ _, t, h => by simp only [rdB, Bool.and_eq_true, beq_iff_eq] at h; exact h.1
  | .unit, t, h => by simp only [rdB, Bool.and_eq_true, beq_iff_eq] at h; exact h.1

def litsOf : (s : Sch) → s.T → List Lit
  | .int k, x => [.int k (toI k x)]
  | .bool, x => [.bool x]
  | .str, x => [.string x]
  | .slc _, _ => []
  | .arr _ s, x => (x.map (litsOf s)).flatten
  | .pair a b, x => litsOf a x.1 ++ litsOf b x.2
  | .unit, _ => []
def Sch.cmp : Sch → Bool
  | .slc _ => false
  | .arr _ s => s.cmp
  | .pair a b => a.cmp && b.cmp
  | _ => true
def Sch.dep : Sch → Nat
  | .arr _ s => s.dep + 1
  | .pair a b => max (a.dep + 1) b.dep
  | _ => 0

section
variable {P : Program} {w : World} {A : Nat → Prop}

theorem mapM_some {α β : Type} (f : α → Option β) (g : α → β) : ∀ (l : List α), (∀ x, x ∈ l → f x = some (g x)) → l.mapM f = some (l.map g)
  | [], _ => rfl
  | x :: l, h => by
    rw [List.mapM_cons, h x List.mem_cons_self, mapM_some f g l fun y hy => h y (List.mem_cons_of_mem _ hy)]
    rfl

/-- How many parts a value has. -/
def Sch.parts : Sch → Nat
  | .arr n s => n * s.parts
  | .pair a b => a.parts + b.parts
  | .slc _ => 0
  | .unit => 0
  | _ => 1
theorem lits_length : ∀ (s : Sch) {x : s.T} {cs : List Value}, RepC w A s x cs → (litsOf s x).length = s.parts
  | .int _, _, _, _ => rfl
  | .bool, _, _, _ => rfl
  | .str, _, _, _ => rfl
  | .slc _, _, _, _ => rfl
  | .unit, _, _, _ => rfl
  | .pair a b, x, cs, h => by
    obtain ⟨c, r, _, h1, h2⟩ := h
    show (litsOf a x.1 ++ litsOf b x.2).length = _
    rw [List.length_append, lits_length a h1, lits_length b h2]; rfl
  | .arr n s, xs, cs, h => by
    obtain ⟨hl, h⟩ := h
    have key : ∀ (ys : List s.T) (L : List Value), RepL (RepC w A s) ys L → ((ys.map (litsOf s)).flatten).length = ys.length * s.parts := by
      intro ys
      induction ys with
      | nil => intro L _; simp
      | cons y ys ih =>
        intro L h
        obtain ⟨c, r, _, h1, h2⟩ := h
        simp only [List.map_cons, List.flatten_cons, List.length_append, List.length_cons]
        rw [lits_length s h1, ih r h2, Nat.add_mul, Nat.one_mul, Nat.add_comm]
    show ((xs.map (litsOf s)).flatten).length = n * s.parts
    rw [key xs cs h, hl]

theorem toI_inj (k : IntKind) {a b : IT k} (h : toI k a = toI k b) : a = b := by
  cases k <;> simp only [toI] at h <;> first
    | exact h
    | exact UInt8.toNat_inj.1 (by exact_mod_cast h)
    | exact UInt32.toNat_inj.1 (by exact_mod_cast h)

/-- The parts tell the values. -/
theorem lits_eq : ∀ (s : Sch), s.cmp = true → ∀ {x y : s.T} {cs ds : List Value}, RepC w A s x cs → RepC w A s y ds → (litsOf s x = litsOf s y ↔ beqT s x y = true)
  | .int k, _, x, y, _, _, _, _ => by simp [litsOf, beqT]
  | .bool, _, x, y, _, _, _, _ => by simp [litsOf, beqT]
  | .str, _, x, y, _, _, _, _ => by simp [litsOf, beqT]
  | .unit, _, x, y, _, _, _, _ => by simp [litsOf, beqT]
  | .pair a b, hc, x, y, cs, ds, h, k => by
    simp only [Sch.cmp, Bool.and_eq_true] at hc
    obtain ⟨c, r, _, h1, h2⟩ := h
    obtain ⟨c', r', _, k1, k2⟩ := k
    have e1 := lits_eq a hc.1 h1 k1
    have e2 := lits_eq b hc.2 h2 k2
    show litsOf a x.1 ++ litsOf b x.2 = litsOf a y.1 ++ litsOf b y.2 ↔ (beqT a x.1 y.1 && beqT b x.2 y.2) = true
    rw [Bool.and_eq_true, ← e1, ← e2]
    exact ⟨fun e => List.append_inj e (by rw [lits_length a h1, lits_length a k1]), fun e => by rw [e.1, e.2]⟩
  | .arr n s, hc, xs, ys, cs, ds, h, k => by
    have key : ∀ (xs ys : List s.T) (L M : List Value), xs.length = ys.length → RepL (RepC w A s) xs L → RepL (RepC w A s) ys M → ((xs.map (litsOf s)).flatten = (ys.map (litsOf s)).flatten ↔ beqL (beqT s) xs ys = true) := by
      intro xs
      induction xs with
      | nil => intro ys L M hl _ _; cases ys <;> simp_all [beqL]
      | cons x xs ih =>
        intro ys L M hl h k
        cases ys with
        | nil => simp at hl
        | cons y ys =>
          obtain ⟨c, r, _, h1, h2⟩ := h
          obtain ⟨c', r', _, k1, k2⟩ := k
          have e1 := lits_eq s hc h1 k1
          have e2 := ih ys r r' (by simpa using hl) h2 k2
          simp only [List.map_cons, List.flatten_cons, beqL, Bool.and_eq_true]
          rw [← e1, ← e2]
          exact ⟨fun e => List.append_inj e (by rw [lits_length s h1, lits_length s k1]), fun e => by rw [e.1, e.2]⟩
    exact key xs ys cs ds (by rw [h.1, k.1]) h.2 k.2

mutual
theorem keyLits_ok : ∀ (s : Sch), s.cmp = true → ∀ {t : TypeId} {m : Nat}, rdB P s t = true → P.keyTypeAt m t = true → ∀ {x : s.T} {cs : List Value}, RepC w A s x cs → ∀ {D : Nat}, s.dep < D → P.keyLits D t cs = some (litsOf s x)
  | .slc _, hc, _, _, _, _, _, _, _, _, _ => by cases hc
  | .int k, _, t, m, hr, _, x, cs, h, D, hD => by
    cases D with
    | zero => omega
    | succ D =>
      simp only [rdB, Bool.and_eq_true] at hr
      obtain ⟨rfl, hw⟩ := h
      have h2 := hr.2
      split at h2
      · rename_i j hj
        simp only [beq_iff_eq] at h2
        subst h2
        simp [Program.keyLits, hj, hw, litsOf]
      · cases h2
  | .bool, _, t, m, hr, _, x, cs, h, D, hD => by
    cases D with
    | zero => omega
    | succ D =>
      simp only [rdB, Bool.and_eq_true] at hr
      obtain rfl := h
      have h2 := hr.2
      split at h2
      · rename_i hj
        simp [Program.keyLits, hj, litsOf]
      · cases h2
  | .str, _, t, m, hr, _, x, cs, h, D, hD => by
    cases D with
    | zero => omega
    | succ D =>
      simp only [rdB, Bool.and_eq_true] at hr
      obtain ⟨rfl, hm⟩ := h
      have h2 := hr.2
      split at h2
      · rename_i hj
        have hs : (⟨x.toArray⟩ : ByteArray).size ≤ maxLen := by simpa [ByteArray.size] using hm
        simp [Program.keyLits, hj, hs, litsOf]
      · cases h2
  | .arr n s, hc, t, m, hr, hk, x, cs, h, D, hD => by
    cases D with
    | zero => omega
    | succ D =>
      have hlen := RepC.length (.arr n s) h
      have hct := rdB_cells hr
      simp only [rdB, Bool.and_eq_true] at hr
      have h2 := hr.2
      split at h2
      · rename_i m' e hj
        simp only [Bool.and_eq_true, beq_iff_eq] at h2
        obtain ⟨rfl, hre⟩ := h2
        have hce := rdB_cells hre
        cases m with
        | zero => simp [Program.keyTypeAt] at hk
        | succ m =>
          have hke : P.keyTypeAt m e = true := by simpa [Program.keyTypeAt, hj] using hk
          obtain ⟨hl, hL⟩ := h
          have key : ∀ i, i < m' → P.keyLits D e ((cs.drop (i * P.cellsOf e)).take (P.cellsOf e)) = some (litsOf s (x.getD i s.dflt)) := by
            intro i hi
            have hi' : i < x.length := by omega
            have hrep : RepC w A s (x.getD i s.dflt) ((cs.drop (i * s.cells)).take s.cells) := RepL.at_ (fun _ _ => RepC.length s) hL (by simp [List.getD, List.getElem?_eq_getElem hi'])
            rw [hce]
            exact keyLits_ok s hc hre hke hrep (by simp only [Sch.dep] at hD; omega)
          simp only [Program.keyLits, hj]
          rw [if_pos (by rw [hlen, hct]), mapM_some _ (fun i => litsOf s (x.getD i s.dflt)) _ (fun i hi => key i (List.mem_range.1 hi))]
          simp only [Option.map_some, litsOf]
          congr 2
          apply List.ext_getElem
          · simp [hl]
          · intro i h1 h2
            simp only [List.length_map] at h2
            simp [List.getD, List.getElem?_eq_getElem h2]
      · cases h2
  | .unit, _, t, m, hr, hk, x, cs, h, D, hD => by
    cases D with
    | zero => omega
    | succ D =>
      have hct := rdB_cells hr
      simp only [rdB, Bool.and_eq_true] at hr
      obtain rfl := h
      have h2 := hr.2
      split at h2
      · rename_i fs hj
        have e : fs = #[] := Array.eq_empty_of_size_eq_zero (by simpa using h2)
        subst e
        have hc0 : P.cellsOf t = 0 := hct
        simp [Program.keyLits, hj, litsOf, hc0]
      · cases h2
  | .pair a b, hc, t, m, hr, hk, x, cs, h, D, hD => by
    cases D with
    | zero => omega
    | succ D =>
      have hlen := RepC.length (.pair a b) h
      have hct := rdB_cells hr
      simp only [Sch.cmp, Bool.and_eq_true] at hc
      simp only [rdB, Bool.and_eq_true] at hr
      have h2 := hr.2
      split at h2
      · rename_i fs hj
        split at h2
        · rename_i f r hf
          simp only [Bool.and_eq_true, beq_iff_eq] at h2
          obtain ⟨⟨ho, h3⟩, h4⟩ := h2
          cases m with
          | zero => simp [Program.keyTypeAt] at hk
          | succ m =>
            simp only [Program.keyTypeAt, hj, Bool.and_eq_true] at hk
            have hall : ∀ g, g ∈ fs.toList → (g.name != "_") = true ∧ P.keyTypeAt m g.type = true := by
              intro g hg
              have := Array.all_eq_true_iff_forall_mem.1 hk.1.1 g (Array.mem_toList_iff.1 hg)
              simpa only [Bool.and_eq_true] using this
            rw [hf] at hall
            obtain ⟨c, q, rfl, h5, h6⟩ := h
            have hcl := RepC.length a h5
            have hca := rdB_cells h3
            simp only [Sch.dep] at hD
            have k1 : P.keyLits D f.type (((c ++ q).drop f.offset).take (P.cellsOf f.type)) = some (litsOf a x.1) := by
              rw [ho, hca, ← hcl]
              simpa using keyLits_ok a hc.1 h3 (hall f List.mem_cons_self).2 h5 (D := D) (by omega)
            obtain ⟨L, k2, k3⟩ := fields_ok b hc.2 h4 (fun g hg => (hall g (List.mem_cons_of_mem _ hg)).2) h6 (D := D) (by omega) c hcl
            simp only [Program.keyLits, hj]
            rw [if_pos ⟨by rw [hlen, hct], by
              rw [Array.all_eq_true_iff_forall_mem]
              intro g hg
              exact (hall g (by rw [← hf]; exact Array.mem_toList_iff.2 hg)).1⟩, hf, List.mapM_cons, k1]
            simp only [Option.bind_eq_bind, Option.bind_some, k2, Option.pure_def, Option.map_some, litsOf, List.flatten_cons, k3]
        · cases h2
      · cases h2
theorem fields_ok : ∀ (s : Sch), s.cmp = true → ∀ {r : List Field} {off m : Nat}, rdF P s r off = true → (∀ g, g ∈ r → P.keyTypeAt m g.type = true) → ∀ {x : s.T} {q : List Value}, RepC w A s x q → ∀ {D : Nat}, s.dep ≤ D →
    ∀ (p : List Value), p.length = off → ∃ L, (r.mapM fun f => P.keyLits D f.type (((p ++ q).drop f.offset).take (P.cellsOf f.type))) = some L ∧ L.flatten = litsOf s x
  | .unit, _, [], off, m, _, _, x, q, h, D, _, p, _ => ⟨[], rfl, rfl⟩
  | .pair a b, hc, f :: r, off, m, hr, hall, x, q, h, D, hD, p, hp => by
    simp only [Sch.cmp, Bool.and_eq_true] at hc
    simp only [rdF, Bool.and_eq_true, beq_iff_eq] at hr
    obtain ⟨⟨ho, h3⟩, h4⟩ := hr
    obtain ⟨c, q', rfl, h5, h6⟩ := h
    have hcl := RepC.length a h5
    have hca := rdB_cells h3
    simp only [Sch.dep] at hD
    have k1 : P.keyLits D f.type (((p ++ (c ++ q')).drop f.offset).take (P.cellsOf f.type)) = some (litsOf a x.1) := by
      rw [ho, hca, ← hcl, ← hp]
      simpa using keyLits_ok a hc.1 h3 (hall f List.mem_cons_self) h5 (D := D) (by omega)
    obtain ⟨L, k2, k3⟩ := fields_ok b hc.2 h4 (fun g hg => hall g (List.mem_cons_of_mem _ hg)) h6 (D := D) (by omega) (p ++ c) (by rw [List.length_append, hp, hcl])
    rw [List.append_assoc] at k2
    refine ⟨litsOf a x.1 :: L, ?_, by simp only [List.flatten_cons, k3, litsOf]⟩
    rw [List.mapM_cons, k1]
    simp only [Option.bind_eq_bind, Option.bind_some, k2, Option.pure_def]
  | .int _, _, [], _, _, hr, _, _, _, _, _, _, _, _ => by simp [rdF] at hr
  | .int _, _, _ :: _, _, _, hr, _, _, _, _, _, _, _, _ => by simp [rdF] at hr
  | .bool, _, [], _, _, hr, _, _, _, _, _, _, _, _ => by simp [rdF] at hr
  | .bool, _, _ :: _, _, _, hr, _, _, _, _, _, _, _, _ => by simp [rdF] at hr
  | .str, _, [], _, _, hr, _, _, _, _, _, _, _, _ => by simp [rdF] at hr
  | .str, _, _ :: _, _, _, hr, _, _, _, _, _, _, _, _ => by simp [rdF] at hr
  | .slc _, hc, _, _, _, _, _, _, _, _, _, _, _, _ => by cases hc
  | .arr _ _, _, [], _, _, hr, _, _, _, _, _, _, _, _ => by simp [rdF] at hr
  | .arr _ _, _, _ :: _, _, _, hr, _, _, _, _, _, _, _, _ => by simp [rdF] at hr
  | .pair _ _, _, [], _, _, hr, _, _, _, _, _, _, _, _ => by simp [rdF] at hr
  | .unit, _, _ :: _, _, _, hr, _, _, _, _, _, _, _, _ => by simp [rdF] at hr
end

def isWide (P : Program) (t : TypeId) : Bool := match P.underlying t with
  | some (.array _ _) => true
  | some (.struct _) => true
  | _ => false
/-- May values of a type be compared? -/
def eqB (P : Program) (s : Sch) (t : TypeId) : Bool := s.cmp && s.agg && decide (s.dep < 20) && rdB P s t && P.keyTypeAt 20 t && isWide P t && !P.eqGuardType P.depth t
theorem eqB_ok {s : Sch} {t : TypeId} (h : eqB P s t = true) : EqOk P t s := by
  simp only [eqB, Bool.and_eq_true, decide_eq_true_eq, Bool.not_eq_true'] at h
  obtain ⟨⟨⟨⟨⟨⟨hc, ha⟩, hd⟩, hr⟩, hk⟩, hw⟩, hg⟩ := h
  refine ⟨ha, fun w A x y cs ds hx hy => ?_⟩
  have hcells := rdB_cells hr
  have form : ∀ {z : s.T} {L : List Value}, RepC w A s z L → (Value.agg L.toArray).formed P t = true := by
    intro z L hz
    have hl := RepC.length s hz
    unfold Value.formed
    unfold isWide at hw
    split at hw
    · rename_i n e he; simp [he, hl, hcells]
    · rename_i fs he; simp [he, hl, hcells]
    · cases hw
  obtain ⟨r, h1, h2⟩ := run_equalIn_deep 9980 20 t hk w 20 20 (.agg cs.toArray) (.agg ds.toArray) (litsOf s x) (litsOf s y) (form hx) (form hy)
    (keyLits_ok s hc hr hk hx hd) (keyLits_ok s hc hr hk hy hd)
  have e : r = beqT s x y := by
    have := h2.trans (lits_eq s hc hx hy)
    cases r <;> cases hb : beqT s x y <;> simp_all
  refine ⟨by rw [← e]; exact h1, fun op xo yo => ?_⟩
  unfold eqGuard
  cases op <;> first
    | rfl
    | simp [hg]
end

/-- Are values of a type keys of maps? -/
def keyB (P : Program) (s : Sch) (t : TypeId) : Bool :=
  match s with
  | .int q => (match P.underlying t with | some (.int j) => j == q | _ => false)
  | s => s.cmp && s.agg && decide (s.dep < P.types.size + 1) && rdB P s t && P.keyType t && isWide P t && P.tiled (P.types.size + 1) t && decide (P.types.size + 2 ≤ 10000)
theorem beqL_eq' {α : Type} {f : α → α → Bool} (hf : ∀ a b, f a b = true ↔ a = b) : ∀ a b : List α, beqL f a b = true ↔ a = b
  | [], [] => by simp [beqL]
  | [], _ :: _ => by simp [beqL]
  | _ :: _, [] => by simp [beqL]
  | a :: l, b :: m => by simp only [beqL, Bool.and_eq_true, hf, beqL_eq' hf l m, List.cons.injEq]
theorem beqT_eq' : ∀ (s : Sch), s.cmp = true → ∀ a b : s.T, beqT s a b = true ↔ a = b
  | .int k, _, a, b => by
    show (toI k a == toI k b) = true ↔ _
    rw [beq_iff_eq]; exact ⟨toI_inj k, fun h => by rw [h]⟩
  | .bool, _, a, b => by show ((a : Bool) == b) = true ↔ _; exact beq_iff_eq
  | .str, _, a, b => by show ((a : List UInt8) == b) = true ↔ _; exact beq_iff_eq
  | .slc _, h, _, _ => by cases h
  | .arr _ s, h, a, b => beqL_eq' (beqT_eq' s h) a b
  | .pair s t, h, a, b => by
    have h : s.cmp = true ∧ t.cmp = true := by simpa [Sch.cmp] using h
    show (beqT s a.1 b.1 && beqT t a.2 b.2) = true ↔ _
    rw [Bool.and_eq_true, beqT_eq' s h.1, beqT_eq' t h.2]
    exact ⟨fun e => Prod.ext e.1 e.2, fun e => by rw [e]; exact ⟨rfl, rfl⟩⟩
  | .unit, _, a, b => by show true = true ↔ _; simp
/-- What is compared is written in one way. -/
theorem repC_one {w : World} {A : Nat → Prop} : ∀ (s : Sch), s.cmp = true → ∀ {x : s.T} {cs ds : List Value}, RepC w A s x cs → RepC w A s x ds → cs = ds
  | .int _, _, _, _, _, h, k => h.1.trans k.1.symm
  | .bool, _, _, _, _, h, k => (show _ = _ from h).trans (show _ = _ from k).symm
  | .str, _, _, _, _, h, k => h.1.trans k.1.symm
  | .slc _, hc, _, _, _, _, _ => by cases hc
  | .unit, _, _, _, _, h, k => (show _ = _ from h).trans (show _ = _ from k).symm
  | .pair a b, hc, _, _, _, h, k => by
    simp only [Sch.cmp, Bool.and_eq_true] at hc
    obtain ⟨c, r, rfl, h1, h2⟩ := h
    obtain ⟨c', r', rfl, k1, k2⟩ := k
    rw [repC_one a hc.1 h1 k1, repC_one b hc.2 h2 k2]
  | .arr _ s, hc, xs, cs, ds, h, k => by
    have key : ∀ (xs : List s.T) (L M : List Value), RepL (RepC w A s) xs L → RepL (RepC w A s) xs M → L = M := by
      intro xs
      induction xs with
      | nil => intro L M h k; exact (show L = [] from h).trans (show M = [] from k).symm
      | cons x xs ih =>
        rintro L M ⟨c, r, rfl, h1, h2⟩ ⟨c', r', rfl, k1, k2⟩
        rw [repC_one s hc h1 k1, ih _ _ h2 k2]
    exact key xs cs ds h.2 k.2
theorem key_int {P : Program} {t : TypeId} {q : IntKind} (h : P.underlying t = some (.int q)) : KeyOk P t (.int q) where
  keyed := Maps.int_keyed h
  isKey hr := by
    obtain ⟨rfl, hw⟩ := RepV.key hr
    exact ⟨_, Maps.keyOf_int_mk h hw⟩
  eqv h1 h2 := (RepV.key h1).1.trans (RepV.key h2).1.symm
  inj h1 h2 := by
    have e := (RepV.key h1).1.symm.trans (RepV.key h2).1
    simp only [Value.int.injEq, true_and] at e
    exact toI_inj q e
  beq x y := beqT_eq' (.int q) rfl x y
theorem key_wide {P : Program} {s : Sch} {t : TypeId} (hc : s.cmp = true) (ha : s.agg = true) (hd : s.dep < P.types.size + 1) (hr : rdB P s t = true) (hk : P.keyType t = true) (hw : isWide P t = true) (ht : P.tiled (P.types.size + 1) t = true) (hs : P.types.size + 2 ≤ 10000) : KeyOk P t s := by
  have hcells := rdB_cells hr
  have form : ∀ {w A} {z : s.T} {L : List Value}, RepC w A s z L → (Value.agg L.toArray).formed P t = true := by
    intro w A z L hz
    have hl := RepC.length s hz
    unfold Value.formed
    unfold isWide at hw
    split at hw
    · rename_i n e he; simp [he, hl, hcells]
    · rename_i fs he; simp [he, hl, hcells]
    · cases hw
  have rep : ∀ {w A} {x : s.T} {u : Value}, RepV w A s x u → ∃ cs, u = .agg cs.toArray ∧ RepC w A s x cs := by
    intro w A x u h
    unfold RepV at h
    rwa [if_pos ha] at h
  have hk' : P.keyTypeAt (P.types.size + 1) t = true := hk
  refine ⟨Maps.Keyed.of_law (deep_law hs hk' ht (by unfold isWide at hw; split at hw <;> simp_all)), fun {w A x u} h => ?_, fun h1 h2 => ?_, fun h1 h2 => ?_, beqT_eq' s hc⟩
  · obtain ⟨cs, rfl, hC⟩ := rep h
    have hl := keyLits_ok s hc hr hk' hC (D := P.types.size + 1) hd
    refine ⟨.string (keyBytes (litsOf s x)), ?_⟩
    unfold keyOf
    unfold isWide at hw
    split at hw
    · rename_i n e he
      simp only [he, hk, form hC, Bool.and_self, if_true]
      show Option.map _ (P.keyLits _ t cs) = _
      rw [hl]; rfl
    · rename_i fs he
      simp only [he, hk, form hC, Bool.and_self, if_true]
      show Option.map _ (P.keyLits _ t cs) = _
      rw [hl]; rfl
    · cases hw
  · obtain ⟨cs, e1, c1⟩ := rep h1
    obtain ⟨ds, e2, c2⟩ := rep h2
    rw [e1, e2, repC_one s hc c1 c2]
  · obtain ⟨cs, e1, c1⟩ := rep h1
    obtain ⟨ds, e2, c2⟩ := rep h2
    have e : cs = ds := by rw [e1] at e2; simpa using e2
    subst e
    have l1 := keyLits_ok s hc hr hk' c1 (D := P.types.size + 1) hd
    have l2 := keyLits_ok s hc hr hk' c2 (D := P.types.size + 1) hd
    rw [l1] at l2
    exact (beqT_eq' s hc _ _).1 ((lits_eq s hc c1 c2).1 (by simpa using l2))
theorem keyB_ok {P : Program} {s : Sch} {t : TypeId} (h : keyB P s t = true) : KeyOk P t s := by
  unfold keyB at h
  split at h
  · rename_i q
    split at h
    · rename_i j hj
      rw [beq_iff_eq] at h
      subst h; exact key_int hj
    · cases h
  · simp only [Bool.and_eq_true, decide_eq_true_eq] at h
    obtain ⟨⟨⟨⟨⟨⟨⟨hc, ha⟩, hd⟩, hr⟩, hk⟩, hw⟩, ht⟩, hs⟩ := h
    exact key_wide hc ha hd hr hk hw ht hs
end Go.AI

/- What a book says of the program's types, checked by computing. -/
noncomputable section
namespace Go.AI
open Go Go.RowKit

def zB : Value → Value → Bool
  | .int j m, .int k n => j == k && m == n
  | .bool a, .bool b => a == b
  | .string s, .string t => s.size == 0 && t.size == 0
  | .slice none 0 0, .slice none 0 0 => true
  | .nilFunc, .nilFunc => true
  | .pointer none, .pointer none => true
  | .map none, .map none => true
  | _, _ => false
def zlB : List Value → List Value → Bool
  | [], [] => true
  | a :: l, b :: m => zB a b && zlB l m
  | _, _ => false
theorem zB_ok {a b : Value} (h : zB a b = true) : a = b := by
  unfold zB at h
  split at h
  · simp only [Bool.and_eq_true, beq_iff_eq] at h; rw [h.1, h.2]
  · simp only [beq_iff_eq] at h; rw [h]
  · rename_i s t
    simp only [Bool.and_eq_true, beq_iff_eq] at h
    have key : ∀ s : ByteArray, s.size = 0 → s = ⟨#[]⟩ := fun s hs => by
      obtain ⟨d⟩ := s
      have : d = #[] := Array.eq_empty_of_size_eq_zero hs
      rw [this]
    rw [key s h.1, key t h.2]
  · rfl
  · rfl
  · rfl
  · rfl
  · cases h
theorem zlB_ok : ∀ {l m : List Value}, zlB l m = true → l = m
  | [], [], _ => rfl
  | [], _ :: _, h => by cases h
  | _ :: _, [], h => by cases h
  | a :: l, b :: m, h => by
    simp only [zlB, Bool.and_eq_true] at h
    rw [zB_ok h.1, zlB_ok h.2]

def infoB (P : Program) (t : TypeId) (s : Sch) : Bool :=
  match P.info? t with
  | some i => match i.zero with
    | some z => zlB z.cells.toList (zcells s) && i.size == s.cells && decide (i.bytes ≤ 65536) && decide (0 < i.bytes)
    | none => false
  | none => false
theorem infoB_ok {P : Program} {t : TypeId} {s : Sch} (h : infoB P t s = true) : ∃ i z, P.info? t = some i ∧ i.zero = some z ∧ z.cells.toList = zcells s ∧ i.size = s.cells ∧ i.bytes ≤ 65536 ∧ 0 < i.bytes := by
  unfold infoB at h
  split at h
  · rename_i i hi
    split at h
    · rename_i z hz
      simp only [Bool.and_eq_true, beq_iff_eq, decide_eq_true_eq] at h
      exact ⟨i, z, hi, hz, zlB_ok h.1.1.1, h.1.1.2, h.1.2, h.2⟩
    · cases h
  · cases h

def isStruct : Option TypeDesc → Bool
  | some (.struct _) => true
  | _ => false
theorem isStruct_ok {d : Option TypeDesc} (h : isStruct d = true) : ∃ fs, d = some (.struct fs) := by
  unfold isStruct at h
  split at h
  · exact ⟨_, rfl⟩
  · cases h
def schB (P : Program) : Sch → TypeId → Bool
  | .int k, t => infoB P t (.int k) && match P.underlying t with | some (.int j) => j == k | _ => false
  | .bool, t => infoB P t .bool && match P.underlying t with | some .bool => true | _ => false
  | .str, t => infoB P t .str && match P.underlying t with | some .string => true | _ => false
  | .slc s, t => infoB P t (.slc s) && match P.underlying t with | some (.slice e) => schB P s e | _ => false
  | .arr n s, t => infoB P t (.arr n s) && match P.underlying t with | some (.array m e) => m == n && schB P s e | _ => false
  | .pair a b, t => infoB P t (.pair a b) && isStruct (P.underlying t)
  | .unit, t => infoB P t .unit && isStruct (P.underlying t)
theorem schB_ok {P : Program} : ∀ (s : Sch) {t : TypeId}, schB P s t = true → SchOk P t s
  | .int k, t, h => by
    simp only [schB, Bool.and_eq_true] at h
    refine ⟨infoB_ok h.1, ?_⟩
    have h2 := h.2
    split at h2
    · rename_i j e; rw [e]; simp only [beq_iff_eq] at h2; rw [h2]
    · cases h2
  | .bool, t, h => by
    simp only [schB, Bool.and_eq_true] at h
    refine ⟨infoB_ok h.1, ?_⟩
    have h2 := h.2
    split at h2
    · assumption
    · cases h2
  | .str, t, h => by
    simp only [schB, Bool.and_eq_true] at h
    refine ⟨infoB_ok h.1, ?_⟩
    have h2 := h.2
    split at h2
    · assumption
    · cases h2
  | .slc s, t, h => by
    simp only [schB, Bool.and_eq_true] at h
    refine ⟨infoB_ok h.1, ?_⟩
    have h2 := h.2
    split at h2
    · rename_i e he; exact ⟨e, he, schB_ok s h2⟩
    · cases h2
  | .arr n s, t, h => by
    simp only [schB, Bool.and_eq_true] at h
    refine ⟨infoB_ok h.1, ?_⟩
    have h2 := h.2
    split at h2
    · rename_i m e he
      simp only [Bool.and_eq_true, beq_iff_eq] at h2
      exact ⟨e, by rw [he, h2.1], schB_ok s h2.2⟩
    · cases h2
  | .pair a b, t, h => by
    simp only [schB, Bool.and_eq_true] at h
    exact ⟨infoB_ok h.1, isStruct_ok h.2⟩
  | .unit, t, h => by
    simp only [schB, Bool.and_eq_true] at h
    exact ⟨infoB_ok h.1, isStruct_ok h.2⟩

def kindB (d : TypeDesc) : TK → Bool
  | .other => match d with | .array _ _ => false | .struct _ => false | .slice _ => false | _ => true
  | .func => match d with | .func _ _ _ => true | _ => false
  | .slice e => match d with | .slice e' => e' == e | _ => false
  | .array n e => match d with | .array m e' => m == n && e' == e | _ => false
  | .struct fs => match d with | .struct gs => decide (fs = gs.toList.map fun f => (f.offset, f.type)) | _ => false
  | .ptr e => match d with | .pointer e' => e' == e | _ => false
  | .map k v => match d with | .map k' v' => k' == k && v' == v | _ => false
theorem kindB_ok {d : TypeDesc} {k : TK} (h : kindB d k = true) : KindOk d k := by
  cases k <;> cases d <;> simp only [kindB, Bool.false_eq_true, Bool.and_eq_true, beq_iff_eq, decide_eq_true_eq] at h <;> simp_all [KindOk]

def tiB (P : Program) (Γ : Gam) (t : TypeId) (ti : TI) : Bool :=
  match P.info? t, P.underlying t with
  | some i, some d => i.size == ti.cells && kindB d ti.kind && (ti.agg || ti.cells == 1 && (match i.zero with | some v => v.oneCell' | none => true)) &&
      (match ti.sch with
        | none => true
        | some s => schB P s t && s.agg == ti.agg) &&
      (match ti.kind with
        | .struct fs => match zeroStruct Γ fs with
          | some (_, L) => match i.zero with
            | some v => zlB v.cells.toList L
            | none => false
          | none => true
        | _ => true) &&
      (match zeroAny Γ ti with
        | some (_, L) => match i.zero with
          | some v => zlB v.cells.toList L
          | none => false
        | none => true) &&
      (!ti.eq || match ti.sch with
        | none => true
        | some s => eqB P s t) &&
      (!ti.eq || match ti.kind with
        | .map k _ => match Γ.sch k with
          | none => true
          | some s => keyB P s k
        | _ => true) &&
      (!ti.isPtr || i.zero.isSome)
  | _, _ => false
theorem tiB_ok {P : Program} {Γ : Gam} {t : TypeId} {ti : TI} (h : tiB P Γ t ti = true) : TIOk P Γ t ti := by
  unfold tiB at h
  split at h
  · rename_i i d hi hd
    simp only [Bool.and_eq_true, beq_iff_eq, Bool.or_eq_true] at h
    obtain ⟨⟨⟨⟨⟨⟨⟨⟨h1, h2⟩, h3⟩, h4⟩, h5⟩, h7⟩, h6⟩, h8⟩, h9⟩ := h
    refine ⟨⟨i, d, hi, hd, h1, kindB_ok h2⟩, fun ha => ?_, fun ha i' v hi' hv => ?_, fun s hs => ?_, fun fs z L hk hz => ?_, fun z L hz => ?_, fun he s hs => ?_, fun he k v s hm hs => ?_, fun hp => ?_⟩
    · rcases h3 with h3 | h3
      · rw [ha] at h3; cases h3
      · exact h3.1
    · rcases h3 with h3 | h3
      · rw [ha] at h3; cases h3
      · rw [hi] at hi'; cases hi'
        have := h3.2
        rw [hv] at this; exact this
    · rw [hs] at h4
      simp only [Bool.and_eq_true, beq_iff_eq] at h4
      exact ⟨schB_ok s h4.1, h4.2⟩
    · rw [hk] at h5
      simp only [hz] at h5
      split at h5
      · rename_i v hv
        exact ⟨i, v, hi, hv, zlB_ok h5⟩
      · cases h5
    · simp only [hz] at h7
      split at h7
      · rename_i v hv
        exact ⟨i, v, hi, hv, zlB_ok h7⟩
      · cases h7
    · rw [hs, he] at h6
      exact eqB_ok (by simpa using h6)
    · rw [hm, he] at h8
      simp only [hs] at h8
      exact keyB_ok (by simpa using h8)
    · rw [hp] at h9
      have h9 : i.zero.isSome = true := by simpa using h9
      obtain ⟨z, hz⟩ := Option.isSome_iff_exists.1 h9
      exact ⟨i, z, hi, hz⟩
  · cases h

def gamB (P : Program) (Γ : Gam) : Bool := (List.range Γ.length).all fun t => match Γ.at_ t with
  | none => true
  | some ti => tiB P Γ t ti
theorem gamB_ok {P : Program} {Γ : Gam} (h : gamB P Γ = true) : GamOk P Γ := by
  intro t ti ht
  have hlt : t < Γ.length := by
    rcases Nat.lt_or_ge t Γ.length with h' | h'
    · exact h'
    · simp [Gam.at_, List.getElem?_eq_none h'] at ht
  have := List.all_eq_true.1 h t (List.mem_range.2 hlt)
  rw [ht] at this
  exact tiB_ok this

def noNumB (P : Program) : Bool := P.funcs.toList.all fun fn => fn.body.isNone || !(fn.name == "runtime.NumGoroutine")
theorem noNumB_ok {P : Program} (h : noNumB P = true) : NoNum P := by
  intro f fn hf hb
  have hm : fn ∈ P.funcs.toList := by
    rw [← Array.getElem?_toList] at hf
    exact List.mem_of_getElem? hf
  have := List.all_eq_true.1 h fn hm
  simpa [hb] using this

/-- The ranges over functions of each function have numbers of their own. -/
def rangesB (P : Program) : Bool := P.funcs.toList.all fun fn => match fn.body with
  | some c => nodupB ((rangesOf c).map (·.1))
  | none => true
theorem find_nodup {α : Type} : ∀ {l : List (Nat × α)} {x : Nat × α}, x ∈ l → (l.map (·.1)).Nodup → l.find? (fun y => Nat.beq y.1 x.1) = some x
  | [], _, h, _ => by cases h
  | y :: l, x, h, hn => by
    simp only [List.map_cons, List.nodup_cons] at hn
    rw [List.find?_cons]
    rcases List.mem_cons.1 h with rfl | h
    · simp
    · have : Nat.beq y.1 x.1 = false := by
        cases hb : Nat.beq y.1 x.1 with
        | false => rfl
        | true => exact absurd (List.mem_map.2 ⟨x, h, (Nat.eq_of_beq_eq_true hb).symm⟩) hn.1
      rw [this]
      exact find_nodup h hn.2
theorem rangesB_ok {P : Program} (h : rangesB P = true) : RangesOk P := by
  intro f x hx
  have hc : nodupB ((rangesOf (codeOf P f)).map (·.1)) = true := by
    unfold codeOf
    cases hf : P.funcs[f]? with
    | none => rfl
    | some fn =>
      have := List.all_eq_true.1 h fn (by
        rw [← Array.getElem?_toList] at hf
        exact List.mem_of_getElem? hf)
      simp only [Option.bind_some]
      cases hb : fn.body with
      | none => rfl
      | some c => rw [hb] at this; exact this
  unfold rangeAt
  rw [find_nodup hx (nodupB_ok hc)]
  rfl
end Go.AI

/- Books out of lists, and contracts out of runs with shortcuts. -/
noncomputable section
namespace Go.AI
open Go Go.RowKit

/-- The data of arguments. -/
@[reducible] def PM.T : PM → Type
  | .d s => s.T
  | .o _ s => List s.T
  | .f => Nat
  | .p s => s.T
@[reducible] def ArgsT : List PM → Type
  | [] => Unit
  | m :: ms => m.T × ArgsT ms
def PM.take : (m : PM) → BV → Option m.T
  | .d s, .d t x => if h : t = s then some (castT h x) else none
  | .o E s, .o E' t xs => if h : t = s then (if E' = E then some (castT (s := .slc t) (t := .slc s) (by rw [h]) xs) else none) else none
  | .f, .f g => some g
  | .p s, .p t x => if h : t = s then some (castT h x) else none
  | _, _ => none
def PM.inst : (m : PM) → m.T → BV
  | .d s, x => .d s x
  | .o E s, x => .o E s x
  | .f, g => .f g
  | .p s, x => .p s x
theorem PM.take_eq : ∀ (m : PM) {b : BV} {x : m.T}, m.take b = some x → b = m.inst x
  | .d s, b, x, h => by
    cases b <;> simp only [PM.take] at h <;> try cases h
    split at h
    · rename_i hs; subst hs; cases h; rfl
    · cases h
  | .o E s, b, x, h => by
    cases b <;> simp only [PM.take] at h <;> try cases h
    split at h
    · rename_i hs; subst hs
      split at h
      · rename_i he; subst he; cases h; rfl
      · cases h
    · cases h
  | .f, b, x, h => by cases b <;> simp only [PM.take] at h <;> first | (cases h; rfl) | cases h
  | .p s, b, x, h => by
    cases b <;> simp only [PM.take] at h <;> try cases h
    split at h
    · rename_i hs; subst hs; cases h; rfl
    · cases h
def argsTake : (ms : List PM) → List BV → Option (ArgsT ms)
  | [], [] => some ()
  | m :: ms, b :: bs => match m.take b, argsTake ms bs with
    | some x, some y => some (x, y)
    | _, _ => none
  | _, _ => none
def argsInst : (ms : List PM) → ArgsT ms → List BV
  | [], _ => []
  | m :: ms, x => m.inst x.1 :: argsInst ms x.2
theorem argsTake_eq : ∀ (ms : List PM) {bs : List BV} {x : ArgsT ms}, argsTake ms bs = some x → bs = argsInst ms x
  | [], bs, x, h => by cases bs <;> simp only [argsTake] at h <;> first | rfl | cases h
  | m :: ms, bs, x, h => by
    cases bs with
    | nil => simp [argsTake] at h
    | cons b bs =>
      simp only [argsTake] at h
      split at h
      · rename_i y z h1 h2; cases h
        rw [PM.take_eq m h1, argsTake_eq ms h2]; rfl
      · cases h

/-- A contract out of plain functions. -/
def Orc.of (ps : List PM) (fresh : Bool) (rows : Nat) (f : ArgsT ps → Bool × List BV) : Orc := { ps := ps, fresh := fresh, rows := rows, fn := fun bs => (argsTake ps bs).map f }

/-- Contracts by number. -/
def orcsOf : List (FuncId × Orc) → Orcs
  | [], _ => none
  | p :: l, g => bif Nat.beq p.1 g then some p.2 else orcsOf l g
theorem orcsOf_ok {P : Program} : ∀ {l : List (FuncId × Orc)}, (∀ p, p ∈ l → Contract P p.1 p.2) → OrcsOk P (orcsOf l)
  | [], _ => fun f k h => by cases h
  | p :: l, hl => fun f k h => by
    simp only [orcsOf] at h
    rcases bif_some h with ⟨hb, h⟩ | ⟨_, h⟩
    · cases h
      rw [← Nat.eq_of_beq_eq_true hb]
      exact hl p List.mem_cons_self
    · exact orcsOf_ok (fun q hq => hl q (List.mem_cons_of_mem _ hq)) f k h
def hintsOf : List (FuncId × Hint) → FuncId → Hint
  | [], _ => {}
  | p :: l, g => bif Nat.beq p.1 g then p.2 else hintsOf l g
/-- The same, and nothing is done at loops' heads. -/
def hintsB : List (FuncId × Hint) → FuncId → Hint
  | [], _ => { bare := true }
  | p :: l, g => bif Nat.beq p.1 g then { p.2 with bare := true } else hintsB l g
def needsOf : List (FuncId × Nat) → FuncId → Nat
  | [], _ => 0
  | p :: l, g => bif Nat.beq p.1 g then p.2 else needsOf l g
/-- Shortcuts by function and loop. -/
structure LoE (R : Type) where
  f : FuncId
  key : Nat
  o : LO R
def losOf {R : Type} : List (LoE R) → FuncId → LOs R
  | [], _ => fun _ => none
  | p :: l, g => fun key => bif Nat.beq p.f g && Nat.beq p.key key then some p.o else losOf l g key
/-- The template decides, not the answer: the answer is not known yet where a shortcut stands within another loop. -/
def LO.orT {R : Type} (t : Tpl) (f : t.T → (AExit → ASt → Option R) → Option R) (b : LO R) : LO R := fun st k => match t.take st with
  | some x => f x k
  | none => b st k

section
variable {R : Type} {P : Program} {B : BookL R} {F : Nat}

def stepL (P : Program) (B : BookL R) (F d : Nat) (f : FuncId) (body : Code) : ASt → (AExit → ASt → Option R) → Option R :=
  fun st k => execL B.Γ B.orc (acallL P B F (d + B.need f)) f (B.lo f) (headOf P B.toBook f) F body st k
/-- A loop's shortcut does what the loop does. -/
def LoIs (P : Program) (B : BookL R) (F : Nat) (e : LoE R) (body : Code) : Prop :=
  ∀ d st k r, e.o st k = some r → loopN (stepL P B F d e.f body) (headOf P B.toBook e.f e.key) F st k = some r
def LoOne (P : Program) (B : BookL R) (F : Nat) (e : LoE R) : Prop := ∀ body, body ∈ loopsOf (codeOf P e.f) → loopKey body = e.key → LoIs P B F e body
theorem loOk_of {l : List (LoE R)} (hB : B.lo = losOf l) (h : ∀ e, e ∈ l → LoOne P B F e) : LoOk P B F := by
  intro f body hb o ho d st k r hr
  have key : ∀ (l : List (LoE R)), (∀ e, e ∈ l → LoOne P B F e) → losOf l f (loopKey body) = some o → ∃ e, e ∈ l ∧ e.f = f ∧ e.key = loopKey body ∧ e.o = o := by
    intro l
    induction l with
    | nil => intro _ h; cases h
    | cons p l ih =>
      intro hl h
      simp only [losOf] at h
      rcases bif_some h with ⟨hc, h⟩ | ⟨_, h⟩
      · cases h
        simp only [Bool.and_eq_true] at hc
        exact ⟨p, List.mem_cons_self, Nat.eq_of_beq_eq_true hc.1, Nat.eq_of_beq_eq_true hc.2, rfl⟩
      · obtain ⟨e, h1, h2⟩ := ih (fun q hq => hl q (List.mem_cons_of_mem _ hq)) h
        exact ⟨e, List.mem_cons_of_mem _ h1, h2⟩
  rw [hB] at ho
  obtain ⟨e, h1, rfl, h3, rfl⟩ := key l h ho
  rw [← h3]
  exact h e h1 body hb h3.symm d st k r hr

theorem nodupB_inj {l : List Nat} (h : nodupB l = true) {i j : Nat} {x : Nat} (hi : l[i]? = some x) (hj : l[j]? = some x) : i = j := by
  rcases Nat.lt_or_ge i l.length with h' | h'
  · exact (List.getElem?_inj h' (nodupB_ok h)).1 (hi.trans hj.symm)
  · rw [List.getElem?_eq_none h'] at hi; cases hi
/-- There is one loop with a key. -/
theorem loOne_of {e : LoE R} (j : Nat) (hn : nodupB ((loopsOf (codeOf P e.f)).map loopKey) = true) (hj : ((loopsOf (codeOf P e.f)).map loopKey)[j]? = some e.key) (h : LoIs P B F e ((loopsOf (codeOf P e.f)).getD j .skip)) : LoOne P B F e := by
  intro body hb hk
  obtain ⟨i, hi⟩ := List.mem_iff_getElem?.1 hb
  have h1 : ((loopsOf (codeOf P e.f)).map loopKey)[i]? = some e.key := by rw [List.getElem?_map, hi, Option.map_some, hk]
  have := nodupB_inj hn h1 hj
  subst this
  have h2 : (loopsOf (codeOf P e.f)).getD i .skip = body := by simp only [List.getD, hi, Option.getD_some]
  rwa [h2] at h
theorem loIs_of {f : FuncId} {key : Nat} {t : Tpl} {g : t.T → (AExit → ASt → Option R) → Option R} {body : Code} (h : ∀ d x k, loopN (stepL P B F d f body) (headOf P B.toBook f key) F (t.inst x) k = g x k) : LoIs P B F ⟨f, key, LO.of t g⟩ body := by
  intro d st k r hr
  obtain ⟨x, rfl, hx⟩ := LO.of_some hr
  rw [h]; exact hx
theorem loIs_orT {f : FuncId} {key : Nat} {t : Tpl} {g : t.T → (AExit → ASt → Option R) → Option R} {b : LO R} {body : Code} (ha : LoIs P B F ⟨f, key, LO.of t g⟩ body) (hb : LoIs P B F ⟨f, key, b⟩ body) : LoIs P B F ⟨f, key, LO.orT t g b⟩ body := by
  intro d st k r hr
  simp only [LO.orT] at hr
  split at hr
  · rename_i x h'
    refine ha d st k _ ?_
    simp only [LO.of, h']; exact hr
  · exact hb d st k r hr
end

/-- A contract, from a run with shortcuts. -/
theorem contract_of_runL {P : Program} (hN : NoNum P) (hG : RangesOk P) (hm : P.follows .mixedOrders = true) {B0 : Book} (hΓ : GamOk P B0.Γ) (hO : OrcsOk P B0.orc) {f : FuncId} (hthere : (P.funcs[f]?.map fun fn => fn.body.isNone) = some false)
    {ps : List PM} {fresh : Bool} {rows : Nat} {g : ArgsT ps → Bool × List BV} {ms : List PM}
    (h : ∀ x, (g x).1 = true → ∃ (F d : Nat) (B : BookL Unit), B.toBook = B0 ∧ LoOk P B F ∧ ∀ kend, runFnL P B F d f (argsInst ps x) ms kend = kend (g x).2) (hR : RcvOk P B0.rcv := by exact rcvOk_none) : Contract P f (Orc.of ps fresh rows g) := by
  have ht : ∃ fn, P.funcs[f]? = some fn ∧ fn.body.isNone = false := by
    cases hf : P.funcs[f]? with
    | none => rw [hf] at hthere; cases hthere
    | some fn => rw [hf] at hthere; exact ⟨fn, rfl, by simpa using hthere⟩
  refine contract_of_run (ms := ms) hN hΓ hG hO (drawn_ok hm hΓ hO) hR ht (fun bs rs hk _ => ?_)
  simp only [Orc.of, Option.map_eq_some_iff] at hk
  obtain ⟨x, hx, hg⟩ := hk
  have hbs := argsTake_eq ps hx
  subst hbs
  obtain ⟨F, d, B, h1, h3, h4⟩ := h x (by rw [hg])
  have hrs : rs = (g x).2 := by rw [hg]
  subst hrs
  refine ⟨F, d, fun kend hk => ?_⟩
  have hr := runFnL_le h3 ((h4 kend).trans hk)
  rwa [h1] at hr
/-- A contract by cases. -/
theorem contract_cases {P : Program} {f : FuncId} {ps : List PM} {fresh : Bool} {rows : Nat} {g : ArgsT ps → Bool × List BV} (h0 : FnOk P f)
    (h : ∀ x, (g x).1 = true → ∃ g', Contract P f (Orc.of ps fresh rows g') ∧ g' x = g x) : Contract P f (Orc.of ps fresh rows g) := by
  refine ⟨h0, fun bs rs hk hm => ?_⟩
  have hk' := hk
  simp only [Orc.of, Option.map_eq_some_iff] at hk'
  obtain ⟨x, hx, hg⟩ := hk'
  obtain ⟨g', hc, he⟩ := h x (by rw [hg])
  refine hc.2 bs rs ?_ hm
  simp only [Orc.of, hx, Option.map_some, he, hg]
/-- Both ways lead to the same. -/
theorem both_self (x : Option Unit) : both x x = x := by cases x <;> rfl

/- Loops, told shortly: a step of a loop as its template knows it gives its shortcut. -/
def LStep {R : Type} (P : Program) (B : BookL R) (F : Nat) (f : FuncId) (j key : Nat) (t : Tpl) (G : (t.T → Option R) → (AExit → ASt → Option R) → t.T → Option R) : Prop :=
  ∀ d x KQ, stepL P B F d f ((loopsOf (codeOf P f)).getD j .skip) (t.inst x) (fun e s => KQ e (headOf P B.toBook f key s)) = G (fun x => KQ .normal (t.inst x)) KQ x
theorem lstep_run {R : Type} {P : Program} {B : BookL R} {F : Nat} {f : FuncId} {j key : Nat} {t : Tpl} {G : (t.T → Option R) → (AExit → ASt → Option R) → t.T → Option R} {g : Nat → t.T → (AExit → ASt → Option R) → Option R}
    (h : LStep P B F f j key t G) (h0 : ∀ x k, g 0 x k = none) (h1 : ∀ (N : ASt → Option R) m x k, g (m + 1) x k = G (fun x => g m x k) (fun e s => match e with | .normal => N s | e => k e s) x) :
    LoIs P B F ⟨f, key, LO.of t (g F)⟩ ((loopsOf (codeOf P f)).getD j .skip) := by
  refine loIs_of fun d x k => ?_
  have key : ∀ m x, loopN (stepL P B F d f ((loopsOf (codeOf P f)).getD j .skip)) (headOf P B.toBook f key) m (t.inst x) k = g m x k := by
    intro m
    induction m with
    | zero => exact fun x => (h0 x k).symm
    | succ m ih =>
      intro x
      refine (h d x (fun e s => match e with | .normal => loopN (stepL P B F d f ((loopsOf (codeOf P f)).getD j .skip)) (headOf P B.toBook f key) m s k | e => k e s)).trans ?_
      rw [h1 (fun s => loopN (stepL P B F d f ((loopsOf (codeOf P f)).getD j .skip)) (headOf P B.toBook f key) m s k) m x k]
      exact congrArg (fun nx => G nx _ x) (funext ih)
  exact key F x
theorem fz {α : Type _} {p : α → Prop} : ∀ x, x ∈ ([] : List α) → p x := fun _ h => nomatch h
theorem fa {α : Type _} {p : α → Prop} {a : α} {l : List α} (h : p a) (k : ∀ x, x ∈ l → p x) : ∀ x, x ∈ a :: l → p x := List.forall_mem_cons.2 ⟨h, k⟩
/-- A contract, told shortly: from the run with shortcuts and what the plain function answers. -/
theorem con_of {P : Program} (hN : NoNum P) (hG : RangesOk P) (hm : P.follows .mixedOrders = true) {B0 : Book} (hΓ : GamOk P B0.Γ) {f : FuncId} {ps : List PM} {fresh : Bool} {rows : Nat} {g : ArgsT ps → Bool × List BV} {ms : List PM} {B : Nat → BookL Unit} {q : Nat → ArgsT ps → (List BV → Option Unit) → Option Unit}
    (hrun : ∀ F x kend, runFnL P (B F) F 20 f (argsInst ps x) ms kend = q F x kend) (hO : OrcsOk P B0.orc) (hthere : (P.funcs[f]?.map fun fn => fn.body.isNone) = some false) (hB : ∀ F, (B F).toBook = B0) (hL : ∀ F, LoOk P (B F) F)
    (h : ∀ x, (g x).1 = true → ∃ F, ∀ kend, q F x kend = kend (g x).2) (hR : RcvOk P B0.rcv := by exact rcvOk_none) : Contract P f (Orc.of ps fresh rows g) :=
  contract_of_runL hN hG hm hΓ hO hthere (fun x hx => (h x hx).elim fun F hF => ⟨F, 20, B F, hB F, hL F, fun kend => (hrun F x kend).trans (hF kend)⟩) (hR := hR)
end Go.AI

/- From a contract of a law's function to the given row. -/
noncomputable section
namespace Go.AI
open Go Go.RowKit Go.WideShapes Go.ChangeShapes

/-- What memory holds for certain of plain data. -/
def Sch.Wf : (s : Sch) → s.T → Prop
  | .int k, x => (Lit.int k (toI k x)).wf = true
  | .bool, _ => True
  | .str, x => x.length ≤ maxLen
  | .slc s, xs => xs.length ≤ maxLen ∧ ∀ x, x ∈ xs → s.Wf x
  | .arr n s, xs => xs.length = n ∧ ∀ x, x ∈ xs → s.Wf x
  | .pair a b, x => a.Wf x.1 ∧ b.Wf x.2
  | .unit, _ => True
theorem RepL.all {α : Type} {R : α → List Value → Prop} {Q : α → Prop} (hR : ∀ x c, R x c → Q x) : ∀ {xs : List α} {L : List Value}, RepL R xs L → ∀ x, x ∈ xs → Q x
  | [], _, _, x, hx => by cases hx
  | y :: ys, L, h, x, hx => by
    obtain ⟨c, r, rfl, h1, h2⟩ := h
    rcases List.mem_cons.1 hx with rfl | hx
    · exact hR _ _ h1
    · exact RepL.all hR h2 x hx
theorem RepC.wf {w : World} {A : Nat → Prop} : ∀ (s : Sch) {x : s.T} {cs : List Value}, RepC w A s x cs → s.Wf x
  | .int k, _, _, h => h.2
  | .bool, _, _, _ => trivial
  | .str, _, _, h => h.2
  | .slc s, xs, cs, h => by
    obtain ⟨a, cap, _, h1, h2, h3⟩ := h
    refine ⟨by omega, ?_⟩
    rcases h3 with rfl | ⟨_, L, _, _, _, hr, _⟩
    · intro x hx; cases hx
    · exact RepL.all (fun x c hc => RepC.wf s hc) hr
  | .arr n s, xs, cs, h => ⟨h.1, RepL.all (fun x c hc => RepC.wf s hc) h.2⟩
  | .pair a b, x, cs, h => by
    obtain ⟨c, r, _, h1, h2⟩ := h
    exact ⟨RepC.wf a h1, RepC.wf b h2⟩
  | .unit, _, _, _ => trivial


section
variable {H : Type} {enc : TypeId × Value → H} {P : Program} {w : World} {base : Nat} {sp : Nat → Bool} {held : Bool}

theorem toI_of (k : IntKind) (n : Int) (h : (Lit.int k n).wf = true) : toI k (ofI k n) = n := by
  have h' := h
  simp only [Lit.wf, Bool.and_eq_true, decide_eq_true_eq] at h'
  cases k <;> simp_all [toI, ofI, IntKind.min, IntKind.max, IntKind.signed, IntKind.bits] <;> omega

theorem repL_of {α : Type} {R : α → List Value → Prop} : ∀ (n : Nat) (f : Nat → List Value), (∀ i, i < n → ∃ y, R y (f i)) → ∃ ys : List α, ys.length = n ∧ RepL R ys ((List.range n).flatMap f)
  | 0, f, _ => ⟨[], rfl, by simp [RepL]⟩
  | n + 1, f, h => by
    obtain ⟨ys, hl, hr⟩ := repL_of n f (fun i hi => h i (by omega))
    obtain ⟨y, hy⟩ := h n (by omega)
    refine ⟨ys ++ [y], by simp [hl], ?_⟩
    rw [List.range_succ, List.flatMap_append]
    exact RepL.append hr (by simpa using RepL.one hy)
theorem flat_drop (k : Nat) : ∀ (n : Nat) (cs : List Value), cs.length = n * k → (List.range n).flatMap (fun i => (cs.drop (i * k)).take k) = cs
  | 0, cs, h => by simp at h; simp [h]
  | n + 1, cs, h => by
    rw [List.range_succ, List.flatMap_append]
    have ih := flat_drop k n (cs.take (n * k)) (by rw [List.length_take, h, Nat.add_mul]; omega)
    have e : (List.range n).flatMap (fun i => (cs.drop (i * k)).take k) = cs.take (n * k) := by
      rw [← ih, List.flatMap_def, List.flatMap_def]
      congr 1
      apply List.map_congr_left
      intro i hi
      have hi := List.mem_range.1 hi
      rw [List.drop_take, List.take_take]
      congr 1
      have : (i + 1) * k ≤ n * k := Nat.mul_le_mul_right _ (by omega)
      rw [Nat.add_mul] at this
      omega
    rw [e]
    simp only [List.flatMap_cons, List.flatMap_nil, List.append_nil]
    rw [List.take_of_length_le (l := cs.drop (n * k)) (by rw [List.length_drop, h, Nat.add_mul]; omega), List.take_append_drop]
theorem flat_get (k : Nat) (f : Nat → List Value) : ∀ (n : Nat), (∀ i, i < n → (f i).length = k) → ∀ j u, ((List.range n).flatMap f)[j]? = some u → ∃ i, i < n ∧ i * k ≤ j ∧ j < i * k + k ∧ (f i)[j - i * k]? = some u
  | 0, _, j, u, h => by simp at h
  | n + 1, hf, j, u, h => by
    rw [List.range_succ, List.flatMap_append] at h
    have hl : ((List.range n).flatMap f).length = n * k := by
      clear h
      induction n with
      | zero => simp
      | succ n ih => rw [List.range_succ, List.flatMap_append, List.length_append, ih (fun i hi => hf i (by omega))]; simp [hf n (by omega), Nat.add_mul]
    rcases Nat.lt_or_ge j (n * k) with hj | hj
    · rw [List.getElem?_append_left (by omega)] at h
      obtain ⟨i, h1, h2⟩ := flat_get k f n (fun i hi => hf i (by omega)) j u h
      exact ⟨i, by omega, h2⟩
    · rw [List.getElem?_append_right (by omega), hl] at h
      simp only [List.flatMap_cons, List.flatMap_nil, List.append_nil] at h
      refine ⟨n, by omega, hj, ?_, h⟩
      have := (List.getElem?_eq_some_iff.1 h).1
      rw [hf n (by omega)] at this; omega

theorem trod_arr {t e : TypeId} {n fuel : Nat} {cs : List Value} {x : DataW H × List MemPlace} (ht : P.underlying t = some (.array n e)) (h : DataW.trod enc P w base sp held fuel t cs = some x) :
    cs.length = P.cellsOf t ∧ ∃ m, ∀ i, i < n → ∃ y, DataW.trod enc P w base sp held m e ((cs.drop (i * P.cellsOf e)).take (P.cellsOf e)) = some y := by
  cases fuel with
  | zero => simp [DataW.trod] at h
  | succ m =>
    unfold DataW.trod at h
    rw [ht] at h
    split at h <;> simp_all
    obtain ⟨_, xs, hp, _⟩ := h
    refine ⟨m, fun i hi => ?_⟩
    have hl := mapM_some_length hp
    rw [List.length_range] at hl
    have := mapM_some_get hp i i (by simp [hi])
    exact ⟨(xs[i]'(by omega)).1, (xs[i]'(by omega)).2, by rw [this]; simp [show i < xs.length by omega]⟩

mutual
theorem open_rep : ∀ (s : Sch) (t : TypeId) (fuel : Nat) (cs : List Value) (x : DataW H × List MemPlace), rdB P s t = true → DataW.trod enc P w base sp held fuel t cs = some x → ∃ y : s.T, RepC w (fun _ => False) s y cs ∧ P.cellsOf t = s.cells
  | .int k, t, fuel, cs, x, hr, h => by
    simp only [rdB, Bool.and_eq_true, beq_iff_eq] at hr
    obtain ⟨hc, hr⟩ := hr
    split at hr
    · rename_i j hj
      obtain rfl : j = k := by simpa using hr
      obtain ⟨n, rfl, _, hw⟩ := DataW.trod_int hj h
      exact ⟨ofI j n, ⟨by rw [toI_of j n hw], by rw [toI_of j n hw]; exact hw⟩, hc⟩
    · cases hr
  | .bool, t, fuel, cs, x, hr, h => by
    simp only [rdB, Bool.and_eq_true, beq_iff_eq] at hr
    obtain ⟨hc, hr⟩ := hr
    split at hr
    · rename_i hj
      obtain ⟨b, rfl, _⟩ := DataW.trod_bool hj h
      exact ⟨b, rfl, hc⟩
    · cases hr
  | .str, t, fuel, cs, x, hr, h => by
    simp only [rdB, Bool.and_eq_true, beq_iff_eq] at hr
    obtain ⟨hc, hr⟩ := hr
    split at hr
    · rename_i hj
      obtain ⟨b, rfl, _, hs⟩ := DataW.trod_string hj h
      exact ⟨b.data.toList, ⟨rfl, by rw [Array.length_toList]; exact hs⟩, hc⟩
    · cases hr
  | .slc s, t, fuel, cs, x, hr, h => by
    simp only [rdB, Bool.and_eq_true, beq_iff_eq] at hr
    obtain ⟨hc, hr⟩ := hr
    split at hr
    · rename_i e hj
      simp only [Bool.and_eq_true, decide_eq_true_eq] at hr
      rcases DataW.trod_slice hj h with ⟨rfl, _⟩ | ⟨a, len, cap, elems, rest, n, _, rfl, _, _, hl, hm, hlen, hel, _⟩
      · exact ⟨[], ⟨none, 0, rfl, Nat.le_refl _, Nat.zero_le _, .inl rfl⟩, hc⟩
      · have hcell : ∀ i, i < len → ∃ L y, w.cells? base (a.add (i * P.cellsOf e)) (P.cellsOf e) = some L ∧ RepC w (fun _ => False) s y L ∧ P.cellsOf e = s.cells := by
          intro i hi
          have h1 := hel i hi
          rw [List.getElem?_eq_getElem (by omega)] at h1
          obtain ⟨L, h2, h3⟩ := Option.bind_eq_some_iff.1 h1
          obtain ⟨y, h4, h5⟩ := open_rep s e n L _ hr.1 h3
          exact ⟨L, y, h2, h4, h5⟩
        rcases Nat.eq_zero_or_pos len with h0 | hpos
        · subst h0
          exact ⟨[], ⟨some a, cap, rfl, Nat.zero_le _, hm, .inl rfl⟩, hc⟩
        · obtain ⟨L0, y0, k1, k2, k3⟩ := hcell 0 hpos
          let f : Nat → List Value := fun i => (w.cells? base (a.add (i * P.cellsOf e)) (P.cellsOf e)).getD []
          have hf : ∀ i, i < len → ∃ y, RepC w (fun _ => False) s y (f i) ∧ w.cells? base (a.add (i * P.cellsOf e)) (P.cellsOf e) = some (f i) := by
            intro i hi
            obtain ⟨L, y, q1, q2, _⟩ := hcell i hi
            have e1 : f i = L := by simp only [f, q1]; rfl
            exact ⟨y, by rw [e1]; exact q2, by rw [e1]; exact q1⟩
          obtain ⟨ys, hyl, hyr⟩ := repL_of len f (fun i hi => ⟨(hf i hi).choose, (hf i hi).choose_spec.1⟩)
          refine ⟨ys, ⟨some a, cap, by rw [hyl], by rw [hyl]; exact hl, hm, .inr ⟨a, _, rfl, ?_, fun h => h, hyr, ?_⟩⟩, hc⟩
          · have := World.cells?_block k1 (by rw [k3]; exact hr.2)
            rwa [Addr.add_block] at this
          · intro j u hu
            have hfl : ∀ i, i < len → (f i).length = s.cells := fun i hi => RepC.length s (hf i hi).choose_spec.1
            obtain ⟨i, hi, hij, hij2, hu⟩ := flat_get s.cells f len hfl j u hu
            obtain ⟨_, _, hc'⟩ := World.cells?_some (hf i hi).choose_spec.2
            have := hc' (j - i * s.cells) (by rw [k3]; omega)
            rw [hu, k3, addr_add_add] at this
            rwa [show i * s.cells + (j - i * s.cells) = j by omega] at this
    · cases hr
  | .arr n s, t, fuel, cs, x, hr, h => by
    simp only [rdB, Bool.and_eq_true, beq_iff_eq] at hr
    obtain ⟨hc, hr⟩ := hr
    split at hr
    · rename_i m e hj
      simp only [Bool.and_eq_true, beq_iff_eq] at hr
      obtain ⟨rfl, hr⟩ := hr
      obtain ⟨hlen, q, hall⟩ := trod_arr hj h
      rcases Nat.eq_zero_or_pos m with h0 | hpos
      · subst h0
        rw [hc] at hlen
        have : cs = [] := by simpa using hlen
        subst this
        exact ⟨[], ⟨rfl, by simp [RepL]⟩, hc⟩
      · have hce : P.cellsOf e = s.cells := by
          obtain ⟨y, hy⟩ := hall 0 hpos
          obtain ⟨_, _, h3⟩ := open_rep s e q _ _ hr hy
          exact h3
        obtain ⟨ys, hyl, hyr⟩ := repL_of (R := RepC w (fun _ => False) s) m (fun i => (cs.drop (i * s.cells)).take s.cells) (fun i hi => by
          obtain ⟨y, hy⟩ := hall i hi
          obtain ⟨z, h2, _⟩ := open_rep s e q _ _ hr hy
          rw [hce] at h2
          exact ⟨z, h2⟩)
        rw [flat_drop s.cells m cs (by rw [hlen, hc])] at hyr
        exact ⟨ys, ⟨hyl, hyr⟩, hc⟩
    · cases hr
  | .pair a b, t, fuel, cs, x, hr, h => by
    simp only [rdB, Bool.and_eq_true, beq_iff_eq] at hr
    obtain ⟨hc, hr⟩ := hr
    split at hr
    · rename_i fs hj
      split at hr
      · rename_i f r hfs
        simp only [Bool.and_eq_true, beq_iff_eq] at hr
        obtain ⟨⟨h0, h1⟩, h2⟩ := hr
        obtain ⟨xs, n, _, _, hlen, hxl, hall⟩ := DataW.trod_struct hj h
        have hall' : ∀ (i : Nat) (g : Field), fs.toList[i]? = some g → ∃ y, DataW.trod enc P w base sp held n g.type ((cs.drop g.offset).take (P.cellsOf g.type)) = some y := by
          intro i g hg
          have hi : i < fs.size := by
            have := (List.getElem?_eq_some_iff.1 hg).1
            simpa using this
          have := hall i g (by rw [← Array.getElem?_toList]; exact hg)
          exact ⟨xs[i]'(by omega), by rw [this]; simp [show i < xs.length by omega]⟩
        rw [hfs] at hall'
        obtain ⟨y0, hy0⟩ := hall' 0 f rfl
        obtain ⟨ya, ha, hca⟩ := open_rep a f.type n _ _ h1 hy0
        obtain ⟨yb, hb⟩ := open_fields b r a.cells n cs h2 (by rw [hlen, hc]) (fun i g hg => hall' (i + 1) g (by simpa using hg))
        refine ⟨(ya, yb), ⟨_, _, ?_, ha, hb⟩, hc⟩
        rw [h0, hca, List.drop_zero, List.take_append_drop]
      · cases hr
    · cases hr
  | .unit, t, fuel, cs, x, hr, h => by
    simp only [rdB, Bool.and_eq_true, beq_iff_eq] at hr
    obtain ⟨hc, hr⟩ := hr
    split at hr
    · rename_i fs hj
      obtain ⟨_, _, _, _, hlen, _, _⟩ := DataW.trod_struct hj h
      rw [hc] at hlen
      exact ⟨(), by simpa [RepC] using hlen, hc⟩
    · cases hr
theorem open_fields : ∀ (s : Sch) (fs : List Field) (off n : Nat) (cs : List Value), rdF P s fs off = true → cs.length = off + s.cells →
    (∀ (i : Nat) (g : Field), fs[i]? = some g → ∃ y, DataW.trod enc P w base sp held n g.type ((cs.drop g.offset).take (P.cellsOf g.type)) = some y) → ∃ y : s.T, RepC w (fun _ => False) s y (cs.drop off)
  | .pair a b, f :: r, off, n, cs, hr, hl, hall => by
    simp only [rdF, Bool.and_eq_true, beq_iff_eq] at hr
    obtain ⟨⟨h0, h1⟩, h2⟩ := hr
    obtain ⟨y0, hy0⟩ := hall 0 f rfl
    obtain ⟨ya, ha, hca⟩ := open_rep a f.type n _ _ h1 hy0
    obtain ⟨yb, hb⟩ := open_fields b r (off + a.cells) n cs h2 (by rw [hl]; simp only [Sch.cells]; omega) (fun i g hg => hall (i + 1) g (by simpa using hg))
    refine ⟨(ya, yb), _, _, ?_, ha, hb⟩
    rw [h0, hca, ← List.drop_drop, List.take_append_drop]
  | .unit, [], off, n, cs, hr, hl, _ => ⟨(), by simp only [RepC]; exact List.drop_eq_nil_of_le (by rw [hl]; simp [Sch.cells])⟩
  | .pair _ _, [], _, _, _, hr, _, _ => by simp [rdF] at hr
  | .unit, _ :: _, _, _, _, hr, _, _ => by simp [rdF] at hr
  | .int _, _, _, _, _, hr, _, _ => by simp [rdF] at hr
  | .bool, _, _, _, _, hr, _, _ => by simp [rdF] at hr
  | .str, _, _, _, _, hr, _, _ => by simp [rdF] at hr
  | .slc _, _, _, _, _, hr, _, _ => by simp [rdF] at hr
  | .arr _ _, _, _, _, _, hr, _, _ => by simp [rdF] at hr
end

/-- An argument, opened. -/
theorem open_arg {r : Reach} {b0 : Nat} {s : Sch} {t : TypeId} {v : Value} {d : DataW H} {ps : List MemPlace} (hr : rdB P s t = true) (hval : Value.okWide P w r b0 t v) (hd : DataW.Trod enc P w base sp held t v d ps) :
    ∃ y : s.T, RV w (fun _ => False) [] (fun _ => none) (.dat s y) v ∧ s.Wf y := by
  obtain ⟨fuel, hf⟩ := hd
  obtain ⟨y, hy, _⟩ := open_rep s t fuel _ _ hr hf
  refine ⟨y, ?_, RepC.wf s hy⟩
  have one : (∀ cs, v ≠ .agg cs) → s.agg = false → RV w (fun _ => False) [] (fun _ => none) (.dat s y) v := by
    intro hne hag
    have hc : v.cells.toList = [v] := by
      cases v <;> first | rfl | exact absurd rfl (hne _)
    rw [hc] at hy
    simp only [RV, RV1, AV.agg, hag, Bool.false_eq_true, if_false, RX]
    exact hy
  have many : s.agg = true → (∃ cs, v = .agg cs) → RV w (fun _ => False) [] (fun _ => none) (.dat s y) v := by
    rintro hag ⟨cs, rfl⟩
    simp only [RV, RV1, AV.agg, hag, if_true, RX]
    exact ⟨cs.toList, by simp, hy⟩
  cases s with
  | int k =>
    simp only [rdB, Bool.and_eq_true] at hr
    have h2 := hr.2
    split at h2
    · rename_i j hj
      obtain ⟨n, rfl⟩ := okWide_int hj hval
      exact one (by simp) rfl
    · cases h2
  | bool =>
    simp only [rdB, Bool.and_eq_true] at hr
    have h2 := hr.2
    split at h2
    · rename_i hj
      obtain ⟨n, rfl⟩ := okWide_bool hj hval
      exact one (by simp) rfl
    · cases h2
  | str =>
    simp only [rdB, Bool.and_eq_true] at hr
    have h2 := hr.2
    split at h2
    · rename_i hj
      obtain ⟨n, rfl⟩ := okWide_string hj hval
      exact one (by simp) rfl
    · cases h2
  | slc s =>
    simp only [rdB, Bool.and_eq_true] at hr
    have h2 := hr.2
    split at h2
    · rename_i e hj
      obtain ⟨a, len, cap, rfl⟩ := okWide_slice hj hval
      exact one (by simp) rfl
    · cases h2
  | arr n s =>
    simp only [rdB, Bool.and_eq_true] at hr
    have h2 := hr.2
    split at h2
    · rename_i m e hj
      simp only [Value.okWide, hj] at hval
      obtain ⟨cs, rfl, _⟩ := hval
      exact many rfl ⟨cs, rfl⟩
    · cases h2
  | pair a b =>
    simp only [rdB, Bool.and_eq_true] at hr
    have h2 := hr.2
    split at h2
    · rename_i fs hj
      obtain ⟨cs, rfl, _⟩ := okWide_struct hj hval
      exact many rfl ⟨cs, rfl⟩
    · cases h2
  | unit =>
    simp only [rdB, Bool.and_eq_true] at hr
    have h2 := hr.2
    split at h2
    · rename_i fs hj
      obtain ⟨cs, rfl, _⟩ := okWide_struct hj hval
      exact many rfl ⟨cs, rfl⟩
    · cases h2

/-- The data of a law's arguments, and what is certain of them. -/
abbrev LawT (ss : List Sch) : Type := ArgsT (ss.map PM.d)
def WfArgs : (ss : List Sch) → LawT ss → Prop
  | [], _ => True
  | s :: ss, x => s.Wf x.1 ∧ WfArgs ss x.2
def rdAll (P : Program) : List Sch → List TypeId → Bool
  | [], [] => true
  | s :: ss, t :: ts => rdB P s t && rdAll P ss ts
  | _, _ => false
theorem open_args {b0 : Nat} : ∀ (ss : List Sch) (ts : List TypeId) (vs : List Value) (ds : List (DataW H)) (ps : List MemPlace), rdAll P ss ts = true → (∀ (j : Nat) t v, ts[j]? = some t → vs[j]? = some v → Value.okWide P w .any b0 t v) →
    DataW.TrodAll enc P w base sp held ts vs ds ps → ∃ x : LawT ss, WfArgs ss x ∧ AllRV w (fun _ => False) [] (fun _ => none) (avsB (argsInst (ss.map PM.d) x) 0) vs ∧ rowsB (argsInst (ss.map PM.d) x) = [] ∧ (argsInst (ss.map PM.d) x).map BV.mode = ss.map PM.d
  | [], [], vs, ds, ps, _, _, h => by
    cases vs with
    | nil => exact ⟨(), trivial, rfl, rfl, rfl⟩
    | cons v vs => cases ds <;> exact h.elim
  | s :: ss, t :: ts, vs, ds, ps, hr, hv, h => by
    simp only [rdAll, Bool.and_eq_true] at hr
    obtain ⟨v, vs', d, ds', p, q, rfl, rfl, rfl, h1, h2⟩ := trodAll_cons h
    obtain ⟨y, hy, hw⟩ := open_arg hr.1 (hv 0 t v rfl rfl) h1
    obtain ⟨x, hx, ha, hrow, hm⟩ := open_args ss ts vs' ds' q hr.2 (fun j t v ht hv' => hv (j + 1) t v (by simpa using ht) (by simpa using hv')) h2
    exact ⟨(y, x), ⟨hw, hx⟩, ⟨v, vs', rfl, hy, ha⟩, hrow, congrArg (PM.d s :: ·) hm⟩
  | [], _ :: _, _, _, _, hr, _, _ => by simp [rdAll] at hr
  | _ :: _, [], _, _, _, hr, _, _ => by simp [rdAll] at hr
end

/-- A law's function answers true, and what was there stays. -/
theorem law_calls {H : Type} {enc : TypeId × Value → H} {P : Program} {f : FuncId} {ss : List Sch} {fr : Bool} {g : LawT ss → Bool × List BV} (hc : Contract P f (Orc.of (ss.map PM.d) fr 0 g)) {ts : List TypeId} (hr : rdAll P ss ts = true)
    (hg : ∀ x, WfArgs ss x → g x = (true, [.d .bool true])) {W : World} {args : Array Value} {ds : List (DataW H)} {ps : List MemPlace} {sp : Nat → Bool} {held : Bool} {b0 : Nat} (hval : ∀ (j : Nat) t v, ts[j]? = some t → args.toList[j]? = some v → Value.okWide P W .any b0 t v)
    (h : DataW.TrodAll enc P W 0 sp held ts args.toList ds ps) : Calls P f args W fun e W' => e = .returned (.bool true) ∧ Below W.heap.size W W' := by
  obtain ⟨x, hx, ha, hrow, hm⟩ := open_args ss ts _ _ _ hr hval h
  have hfn : (Orc.of (ss.map PM.d) fr 0 g).fn (argsInst (ss.map PM.d) x) = some (true, [.d .bool true]) := by
    have : ∀ (ms : List PM) (y : ArgsT ms), argsTake ms (argsInst ms y) = some y := by
      intro ms
      induction ms with
      | nil => intro y; rfl
      | cons m ms ih =>
        intro y
        have h1 : m.take (m.inst y.1) = some y.1 := by cases m <;> simp [PM.take, PM.inst, castT]
        simp only [argsTake, argsInst, h1, ih]
    simp only [Orc.of, this, Option.map_some, hg x hx]
  have key := hc.2 _ _ hfn hm ⟨W, [], fun _ => False⟩ (fun _ => none) args.toList
  rw [hrow] at key
  have hA : Avoid (fun _ => False) [] (fun _ => none) = fun _ => False := by
    funext b
    simp only [Avoid, false_or, eq_iff_iff, iff_false]
    rintro ⟨o, C, _, h⟩
    exact h.none
  have hst : StOk (⟨W, [], fun _ => False⟩ : Ctx P) W [] (fun _ => none) := ⟨fun o => by simp [ASt.obj, ObjOk], fun o o' g C C' _ _ h => h.none.elim, ⟨rfl, rfl, rfl, Nat.le_refl _, fun _ _ _ => rfl⟩, fun b h => h.elim⟩
  simp only [hA] at key
  refine key hst ha _ (fun v us w' ρ' h1 h2 h3 => ?_)
  obtain ⟨u, r, rfl, hu, hr'⟩ := h2
  have hr' : r = [] := hr'
  subst hr'
  have hv : v = u := h3
  subst hv
  have := RV.bool hu
  subst this
  exact ⟨rfl, h1.fr.os, h1.fr.tape, h1.fr.output, h1.fr.size, fun k hk => h1.fr.block k hk (by simp)⟩

section
variable {H : Type} {enc : TypeId × Value → H} {P : Program}
/-- What a row asks, where nothing that was there has changed. -/
theorem post_below {f : Func} {s : ChangeSpec} {apart fresh handsOn again : Bool} {W W' : World} {args : Array Value} {v : Value} {ds gs : List (DataW H)} {before pa pv : List MemPlace}
    (hW : DataW.Whole enc P f.params.toList s.vars apart W args.toList ds gs before)
    (hres : ∀ (b : Nat) (sp : Nat → Bool) (hd : Bool), DataW.TrodAll enc P W' b sp hd f.resultTypes.toList (v.resultList f.resultTypes.size) (s.fn H (ds ++ gs)).results [])
    (hargs : ∀ sp : Nat → Bool, (∀ p ∈ before, sp p.block = true) → DataW.TrodAll enc P W' 0 sp true f.params.toList args.toList (s.fn H (ds ++ gs)).args pa)
    (hvars : ∀ sp : Nat → Bool, (∀ p ∈ before, sp p.block = true) → DataW.TrodVars enc P W' sp s.vars (s.fn H (ds ++ gs)).vars pv)
    (hps : before = pa ++ pv) (hb : Below W.heap.size W W')
    (hok : ∀ (j : Nat) (t : TypeId) (r : Value), f.resultTypes[j]? = some t → (v.resultList f.resultTypes.size)[j]? = some r → Value.okWide P W' .any 0 t r) :
    s.post enc P f apart fresh handsOn again W args v W' := by
  have hlt : ∀ p ∈ before, p.block < W.heap.size := fun p hp => hW.lt p hp
  have hold : ∀ p ∈ before, (fun b => decide (b < W.heap.size)) p.block = true := fun p hp => by simpa using hlt p hp
  refine ⟨ds, gs, before, [], pa, pv, hW, hres _ _ _, hargs _ hold, hvars _ hold, World.keptBut_mono (fun p hp => ⟨hp, ?_⟩) (hb.frame (· ∈ before)), fun _ => ?_⟩
  · rw [hps, List.mem_append] at hp
    exact Or.inr hp
  · obtain ⟨_, _, _, _, _, hz, hn⟩ := hW
    refine ⟨hok, _, _, ([] ++ pa) ++ pv, ⟨[] ++ pa, pv, trodAll_append (hargs _ (fun _ _ => rfl)) (hres _ _ _), hvars _ (fun _ _ => rfl), rfl, ?_, ?_⟩, ?_⟩
    · intro b off hp
      have hin : MemPlace.cell b off ∈ before := by rw [hps]; simpa using hp
      rw [hb.frozen (hlt _ hin)]
      exact hz b off hin
    · intro ha
      have := hn ha
      rw [hps] at this
      simpa using this
    · intro p hp _
      rw [hps]
      simpa using hp
/-- The arguments read as they did. -/
theorem args_stay (hl : laidOutB P = true) {W W' : World} (hb : Below W.heap.size W W') : ∀ (ts : List TypeId) (vs : List Value) (ds : List (DataW H)) (ps : List MemPlace), (ts.all fun t => P.readableRec t && decide (t < P.types.size)) = true → (∀ p ∈ ps, p.block < W.heap.size) →
    DataW.TrodAll enc P W 0 (fun _ => true) true ts vs ds ps → ∀ sp : Nat → Bool, (∀ p ∈ ps, sp p.block = true) → DataW.TrodAll enc P W' 0 sp true ts vs ds ps
  | [], vs, ds, ps, _, _, h, sp, _ => by
    cases vs <;> cases ds <;> exact h
  | t :: ts, vs, ds, ps, ht, hlt, h, sp, hsp => by
    obtain ⟨v, vs', d, ds', p, q, rfl, rfl, rfl, h1, h2⟩ := trodAll_cons h
    simp only [List.all_cons, Bool.and_eq_true, decide_eq_true_eq] at ht
    refine ⟨p, q, ?_, args_stay hl hb ts vs' ds' q ht.2 (fun x hx => hlt x (List.mem_append_right _ hx)) h2 sp (fun x hx => hsp x (List.mem_append_right _ hx)), rfl⟩
    exact WideElems.Trod_stays hl ht.1.1 ht.1.2 h1 (fun x hx => hb.same (hlt x (List.mem_append_left _ hx))) (fun x hx => hsp x (List.mem_append_left _ hx))
end

/-- What a law's row asks, from a contract. -/
theorem law_post {H : Type} {enc : TypeId × Value → H} {P : Program} {f : FuncId} {fn : Func} {s : ChangeSpec} {ss : List Sch} {fr : Bool} {g : LawT ss → Bool × List BV} (hc : Contract P f (Orc.of (ss.map PM.d) fr 0 g)) {apart fresh handsOn again : Bool} {tb : TypeId}
    (hr : rdAll P ss fn.params.toList = true) (hread : (fn.params.toList.all fun t => P.readableRec t && decide (t < P.types.size)) = true) (hl : laidOutB P = true) (hres : fn.resultTypes = #[tb]) (hb : P.underlying tb = some .bool)
    (hvars : s.vars = []) (hs : ∀ ds : List (DataW H), ds.length = fn.params.toList.length → s.fn H (ds ++ []) = { results := [.lit (.bool true)], args := ds })
    (hg : ∀ x, WfArgs ss x → g x = (true, [.d .bool true])) {W : World} {base : Nat} {args : Array Value} {ds gs : List (DataW H)} {before : List MemPlace}
    (hval : ∀ (j : Nat) t v, fn.params[j]? = some t → args[j]? = some v → Value.okWide P W .any base t v) (hW : DataW.Whole enc P fn.params.toList s.vars apart W args.toList ds gs before) :
    Calls P f args W fun e W' => ∃ v, e = .returned v ∧ s.post enc P fn apart fresh handsOn again W args v W' := by
  have hW' := hW
  obtain ⟨p, q, hA, hV, rfl, hfz, hnd⟩ := hW
  rw [hvars] at hV
  obtain ⟨rfl, rfl⟩ := trodVars_none hV
  have hval' : ∀ (j : Nat) t v, fn.params.toList[j]? = some t → args.toList[j]? = some v → Value.okWide P W .any base t v := by
    intro j t v h1 h2
    exact hval j t v (by rw [← Array.getElem?_toList]; exact h1) (by rw [← Array.getElem?_toList]; exact h2)
  refine (law_calls hc hr hg hval' hA).mono fun e W' ⟨he, hbel⟩ => ?_
  subst he
  have hlen : ds.length = fn.params.toList.length := by
    have : ∀ (ts : List TypeId) (vs : List Value) (ds : List (DataW H)) (ps : List MemPlace), DataW.TrodAll enc P W 0 (fun _ => true) true ts vs ds ps → ds.length = ts.length := by
      intro ts
      induction ts with
      | nil => intro vs ds ps h; cases vs <;> cases ds <;> first | rfl | exact h.elim
      | cons t ts ih =>
        intro vs ds ps h
        obtain ⟨v, vs', d, ds', p, q, rfl, rfl, rfl, _, h2⟩ := trodAll_cons h
        simp [ih _ _ _ h2]
    exact this _ _ _ _ hA
  have hfn := hs ds hlen
  refine ⟨_, rfl, post_below (pa := p) (pv := []) hW' (fun b sp hd => ?_) (fun sp hsp => ?_) (fun sp _ => ?_) rfl hbel (ok_one hres rfl (okWide_bool_mk hb _))⟩
  · rw [hfn, hres]
    exact trodAll_cons_mk (shut_bool hb _) trodAll_mk0
  · rw [hfn]
    exact args_stay hl hbel _ _ _ _ hread (fun x hx => hW'.lt x (by simpa using hx)) hA sp (fun x hx => hsp x (by simpa using hx))
  · rw [hfn, hvars]
    exact rfl
end Go.AI

/- Plain laws of the operations on numbers. -/
noncomputable section
namespace Go.AI
open Go

-- the operations at each kind
def addI (a b : Int) : Int := wAdd .i64 a b
def subI (a b : Int) : Int := wSub .i64 a b
def mulI (a b : Int) : Int := wMul .i64 a b
def quoI (a b : Int) : Int := wQuo .i64 a b
def remI (a b : Int) : Int := wRem .i64 a b
def andI (a b : Int) : Int := wAnd .i64 a b
def orI (a b : Int) : Int := wOr .i64 a b
def xorI (a b : Int) : Int := wXor .i64 a b
def andNotI (a b : Int) : Int := wAndNot .i64 a b
/-- A page of zeros. -/
@[reducible] def z16 : List UInt8 := [0, 0, 0, 0, 0, 0, 0, 0, 0, 0, 0, 0, 0, 0, 0, 0]
def minI (a b : Int) : Int := wMin .i64 a b
def maxI (a b : Int) : Int := wMax .i64 a b
def shlI (a : Int) (n : Int) : Int := wShl .i64 a n
def shrI (a : Int) (n : Int) : Int := wShr .i64 a n
def negI (a : Int) : Int := wNeg .i64 a
def notI (a : Int) : Int := wNot .i64 a
def addB (a b : UInt8) : UInt8 := wAdd .u8 a b
def subB (a b : UInt8) : UInt8 := wSub .u8 a b
def mulB (a b : UInt8) : UInt8 := wMul .u8 a b
def quoB (a b : UInt8) : UInt8 := wQuo .u8 a b
def remB (a b : UInt8) : UInt8 := wRem .u8 a b
def andB (a b : UInt8) : UInt8 := wAnd .u8 a b
def orB (a b : UInt8) : UInt8 := wOr .u8 a b
def xorB (a b : UInt8) : UInt8 := wXor .u8 a b
def andNotB (a b : UInt8) : UInt8 := wAndNot .u8 a b
def minB (a b : UInt8) : UInt8 := wMin .u8 a b
def maxB (a b : UInt8) : UInt8 := wMax .u8 a b
def shlB (a : UInt8) (n : Int) : UInt8 := wShl .u8 a n
def shrB (a : UInt8) (n : Int) : UInt8 := wShr .u8 a n
def negB (a : UInt8) : UInt8 := wNeg .u8 a
def notB (a : UInt8) : UInt8 := wNot .u8 a
def addW (a b : UInt32) : UInt32 := wAdd .u32 a b
def subW (a b : UInt32) : UInt32 := wSub .u32 a b
def mulW (a b : UInt32) : UInt32 := wMul .u32 a b
def quoW (a b : UInt32) : UInt32 := wQuo .u32 a b
def remW (a b : UInt32) : UInt32 := wRem .u32 a b
def andW (a b : UInt32) : UInt32 := wAnd .u32 a b
def orW (a b : UInt32) : UInt32 := wOr .u32 a b
def xorW (a b : UInt32) : UInt32 := wXor .u32 a b
def andNotW (a b : UInt32) : UInt32 := wAndNot .u32 a b
def minW (a b : UInt32) : UInt32 := wMin .u32 a b
def maxW (a b : UInt32) : UInt32 := wMax .u32 a b
def shlW (a : UInt32) (n : Int) : UInt32 := wShl .u32 a n
def shrW (a : UInt32) (n : Int) : UInt32 := wShr .u32 a n
def negW (a : UInt32) : UInt32 := wNeg .u32 a
def notW (a : UInt32) : UInt32 := wNot .u32 a
def addU (a b : Int) : Int := wAdd .u64 a b
def subU (a b : Int) : Int := wSub .u64 a b
def mulU (a b : Int) : Int := wMul .u64 a b
def quoU (a b : Int) : Int := wQuo .u64 a b
def remU (a b : Int) : Int := wRem .u64 a b
def andU (a b : Int) : Int := wAnd .u64 a b
def orU (a b : Int) : Int := wOr .u64 a b
def xorU (a b : Int) : Int := wXor .u64 a b
def andNotU (a b : Int) : Int := wAndNot .u64 a b
def minU (a b : Int) : Int := wMin .u64 a b
def maxU (a b : Int) : Int := wMax .u64 a b
def shlU (a : Int) (n : Int) : Int := wShl .u64 a n
def shrU (a : Int) (n : Int) : Int := wShr .u64 a n
def negU (a : Int) : Int := wNeg .u64 a
def notU (a : Int) : Int := wNot .u64 a
def addH (a b : Int) : Int := wAdd .u16 a b
def subH (a b : Int) : Int := wSub .u16 a b
def mulH (a b : Int) : Int := wMul .u16 a b
def quoH (a b : Int) : Int := wQuo .u16 a b
def remH (a b : Int) : Int := wRem .u16 a b
def andH (a b : Int) : Int := wAnd .u16 a b
def orH (a b : Int) : Int := wOr .u16 a b
def xorH (a b : Int) : Int := wXor .u16 a b
def andNotH (a b : Int) : Int := wAndNot .u16 a b
def minH (a b : Int) : Int := wMin .u16 a b
def maxH (a b : Int) : Int := wMax .u16 a b
def shlH (a : Int) (n : Int) : Int := wShl .u16 a n
def shrH (a : Int) (n : Int) : Int := wShr .u16 a n
def negH (a : Int) : Int := wNeg .u16 a
def notH (a : Int) : Int := wNot .u16 a
def addR (a b : Int) : Int := wAdd .i32 a b
def subR (a b : Int) : Int := wSub .i32 a b
def mulR (a b : Int) : Int := wMul .i32 a b
def quoR (a b : Int) : Int := wQuo .i32 a b
def remR (a b : Int) : Int := wRem .i32 a b
def andR (a b : Int) : Int := wAnd .i32 a b
def orR (a b : Int) : Int := wOr .i32 a b
def xorR (a b : Int) : Int := wXor .i32 a b
def andNotR (a b : Int) : Int := wAndNot .i32 a b
def minR (a b : Int) : Int := wMin .i32 a b
def maxR (a b : Int) : Int := wMax .i32 a b
def shlR (a : Int) (n : Int) : Int := wShl .i32 a n
def shrR (a : Int) (n : Int) : Int := wShr .i32 a n
def negR (a : Int) : Int := wNeg .i32 a
def notR (a : Int) : Int := wNot .i32 a
def cvII (a : Int) : Int := wConv .i64 .i64 a
def cvIB (a : Int) : UInt8 := wConv .i64 .u8 a
def cvIW (a : Int) : UInt32 := wConv .i64 .u32 a
def cvIU (a : Int) : Int := wConv .i64 .u64 a
def cvIH (a : Int) : Int := wConv .i64 .u16 a
def cvIR (a : Int) : Int := wConv .i64 .i32 a
def cvBI (a : UInt8) : Int := wConv .u8 .i64 a
def cvBB (a : UInt8) : UInt8 := wConv .u8 .u8 a
def cvBW (a : UInt8) : UInt32 := wConv .u8 .u32 a
def cvBU (a : UInt8) : Int := wConv .u8 .u64 a
def cvBH (a : UInt8) : Int := wConv .u8 .u16 a
def cvBR (a : UInt8) : Int := wConv .u8 .i32 a
def cvWI (a : UInt32) : Int := wConv .u32 .i64 a
def cvWB (a : UInt32) : UInt8 := wConv .u32 .u8 a
def cvWW (a : UInt32) : UInt32 := wConv .u32 .u32 a
def cvWU (a : UInt32) : Int := wConv .u32 .u64 a
def cvWH (a : UInt32) : Int := wConv .u32 .u16 a
def cvWR (a : UInt32) : Int := wConv .u32 .i32 a
def cvUI (a : Int) : Int := wConv .u64 .i64 a
def cvUB (a : Int) : UInt8 := wConv .u64 .u8 a
def cvUW (a : Int) : UInt32 := wConv .u64 .u32 a
def cvUU (a : Int) : Int := wConv .u64 .u64 a
def cvUH (a : Int) : Int := wConv .u64 .u16 a
def cvUR (a : Int) : Int := wConv .u64 .i32 a
def cvHI (a : Int) : Int := wConv .u16 .i64 a
def cvHB (a : Int) : UInt8 := wConv .u16 .u8 a
def cvHW (a : Int) : UInt32 := wConv .u16 .u32 a
def cvHU (a : Int) : Int := wConv .u16 .u64 a
def cvHH (a : Int) : Int := wConv .u16 .u16 a
def cvHR (a : Int) : Int := wConv .u16 .i32 a
def cvRI (a : Int) : Int := wConv .i32 .i64 a
def cvRB (a : Int) : UInt8 := wConv .i32 .u8 a
def cvRW (a : Int) : UInt32 := wConv .i32 .u32 a
def cvRU (a : Int) : Int := wConv .i32 .u64 a
def cvRH (a : Int) : Int := wConv .i32 .u16 a
def cvRR (a : Int) : Int := wConv .i32 .i32 a


theorem wrap_i64_id {n : Int} (h1 : -9223372036854775808 ≤ n) (h2 : n < 9223372036854775808) : IntKind.i64.wrap n = n := by
  rw [IntKind.wrap_i64]; omega
theorem wrap_u64_id {n : Int} (h1 : 0 ≤ n) (h2 : n < 18446744073709551616) : IntKind.u64.wrap n = n := by
  simp only [IntKind.wrap, IntKind.signed, IntKind.bits]; simp; omega
theorem addI_eq {a b : Int} (h1 : -9223372036854775808 ≤ a + b) (h2 : a + b < 9223372036854775808) : addI a b = a + b := wrap_i64_id h1 h2
theorem subI_eq {a b : Int} (h1 : -9223372036854775808 ≤ a - b) (h2 : a - b < 9223372036854775808) : subI a b = a - b := wrap_i64_id h1 h2
theorem mulI_eq {a b : Int} (h1 : -9223372036854775808 ≤ a * b) (h2 : a * b < 9223372036854775808) : mulI a b = a * b := wrap_i64_id h1 h2
theorem quoI_eq {a b : Int} (h1 : 0 ≤ a) (h2 : 0 < b) (h3 : a < 9223372036854775808) : quoI a b = a / b := by
  have h := Int.tdiv_eq_ediv_of_nonneg h1 (b := b)
  have h4 : a / b ≤ a := Int.ediv_le_self b h1
  have h5 : 0 ≤ a / b := Int.ediv_nonneg h1 (by omega)
  show IntKind.i64.wrap (a.tdiv b) = a / b
  rw [h, wrap_i64_id (by omega) (by omega)]
theorem remI_eq {a b : Int} (h1 : 0 ≤ a) : remI a b = a % b := Int.tmod_eq_emod_of_nonneg h1
theorem shlI_eq {a n : Int} (h0 : 0 ≤ n) (h1 : n < 64) (h2 : -9223372036854775808 ≤ a * 2 ^ n.toNat) (h3 : a * 2 ^ n.toNat < 9223372036854775808) : shlI a n = a * 2 ^ n.toNat := by
  have : min n.toNat IntKind.i64.bits = n.toNat := Nat.min_eq_left (by show n.toNat ≤ 64; omega)
  show IntKind.i64.wrap (a * 2 ^ (min n.toNat IntKind.i64.bits)) = _
  rw [this, wrap_i64_id h2 h3]
theorem shrI_eq {a n : Int} (h0 : 0 ≤ n) (h1 : n ≤ 64) : shrI a n = a / 2 ^ n.toNat := by
  have : min n.toNat IntKind.i64.bits = n.toNat := Nat.min_eq_left (by show n.toNat ≤ 64; omega)
  show a.fdiv (2 ^ (min n.toNat IntKind.i64.bits)) = _
  rw [this, Int.fdiv_eq_ediv_of_nonneg _ (Int.le_of_lt (Int.pow_pos (by omega)))]
theorem shrU_eq {a n : Int} (h0 : 0 ≤ n) (h1 : n ≤ 64) : shrU a n = a / 2 ^ n.toNat := by
  have : min n.toNat IntKind.u64.bits = n.toNat := Nat.min_eq_left (by show n.toNat ≤ 64; omega)
  show a.fdiv (2 ^ (min n.toNat IntKind.u64.bits)) = _
  rw [this, Int.fdiv_eq_ediv_of_nonneg _ (Int.le_of_lt (Int.pow_pos (by omega)))]
theorem maxI_eq (a b : Int) : maxI a b = max a b := by
  show (if b > a then b else a) = _; omega
theorem minI_eq (a b : Int) : minI a b = min a b := by
  show (if b < a then b else a) = _; omega
theorem cvBI_eq (x : UInt8) : cvBI x = (x.toNat : Int) := by
  have := x.toNat_lt
  show IntKind.i64.wrap (x.toNat : Int) = _
  rw [wrap_i64_id (by omega) (by omega)]
theorem cvWI_eq (x : UInt32) : cvWI x = (x.toNat : Int) := by
  have := x.toNat_lt
  show IntKind.i64.wrap (x.toNat : Int) = _
  rw [wrap_i64_id (by omega) (by omega)]
theorem wrap_u8 (n : Int) : IntKind.u8.wrap n = n % 256 := by simp only [IntKind.wrap, IntKind.signed, IntKind.bits]; simp
theorem wrap_u32 (n : Int) : IntKind.u32.wrap n = n % 4294967296 := by simp only [IntKind.wrap, IntKind.signed, IntKind.bits]; simp
theorem wrap_u64 (n : Int) : IntKind.u64.wrap n = n % 18446744073709551616 := by simp only [IntKind.wrap, IntKind.signed, IntKind.bits]; simp
theorem cvIB_eq (a : Int) : cvIB a = UInt8.ofNat (a % 256).toNat := by
  show UInt8.ofNat (IntKind.u8.wrap a).toNat = _
  rw [wrap_u8]
theorem cvUB_eq (a : Int) : cvUB a = UInt8.ofNat (a % 256).toNat := by
  show UInt8.ofNat (IntKind.u8.wrap a).toNat = _
  rw [wrap_u8]
theorem cvIU_eq {a : Int} (h : 0 ≤ a) (h2 : a < 9223372036854775808) : cvIU a = a := by
  show IntKind.u64.wrap a = a
  exact wrap_u64_id h (by omega)
theorem cvII_eq {a : Int} (h1 : -9223372036854775808 ≤ a) (h2 : a < 9223372036854775808) : cvII a = a := wrap_i64_id h1 h2
theorem ofInt_i64 (a : Nat) (ha : a < 9223372036854775808) : (BitVec.ofInt 64 (a : Int)).toNat = a := by
  rw [BitVec.ofInt_natCast, BitVec.toNat_ofNat]; exact Nat.mod_eq_of_lt (by omega)
theorem orI_eq {a b : Nat} (ha : a < 9223372036854775808) (hb : b < 9223372036854775808) : orI (a : Int) (b : Int) = ((a ||| b : Nat) : Int) := by
  have hx : a ||| b < 2 ^ 63 := Nat.or_lt_two_pow (by omega) (by omega)
  show IntKind.i64.wrap ((BitVec.ofInt 64 (a : Int) ||| BitVec.ofInt 64 (b : Int)).toNat : Int) = _
  rw [BitVec.toNat_or, ofInt_i64 a ha, ofInt_i64 b hb, wrap_i64_id (by omega) (by omega)]
theorem bif_true {X : Type} {c : Bool} (h : c = true) (a b : X) : (bif c then a else b) = a := by rw [h]; rfl
theorem bif_false {X : Type} {c : Bool} (h : c = false) (a b : X) : (bif c then a else b) = b := by rw [h]; rfl
theorem bif_dec {X : Type} {p : Prop} [Decidable p] (a b : X) : (bif decide p then a else b) = if p then a else b := by by_cases h : p <;> simp [h]
theorem beq_t {a b : Int} (h : a = b) : (a == b) = true := by simpa using h
theorem beq_f {a b : Int} (h : a ≠ b) : (a == b) = false := by simpa using h
theorem bne_t {a b : Int} (h : a ≠ b) : (a != b) = true := by simpa using h
theorem bne_f {a b : Int} (h : a = b) : (a != b) = false := by simpa using h
theorem tt {p : Prop} [Decidable p] (h : p) : decide p = true := decide_eq_true h
theorem ff {p : Prop} [Decidable p] (h : ¬ p) : decide p = false := decide_eq_false h
theorem tt2 {p q : Prop} [Decidable p] [Decidable q] (h : p) (k : q) : (decide p && decide q) = true := by simp [h, k]
theorem tt3 {p q r : Prop} [Decidable p] [Decidable q] [Decidable r] (h : p) (k : q) (l : r) : (decide p && decide q && decide r) = true := by simp [h, k, l]
theorem le_big {n : Nat} (h : n ≤ 2147483648) : decide (n ≤ big) = true := decide_eq_true (by unfold big; exact h)
theorem take_snoc {α : Type} (l : List α) (k : Nat) (d : α) (h : k < l.length) : l.take (k + 1) = l.take k ++ [l.getD k d] := by
  rw [List.take_succ_eq_append_getElem h]; simp [List.getD, h]
end Go.AI
