/- Functions. -/
import Derived.Test.YtadpmbipdafjiaaHead
namespace Go.AI
open Go Go.RowKit

section
variable {P : Program} {Γ : Gam} {c : Ctx} {w w' : World} {H H' : List AObj} {ρ ρ' : Rho} {st : ASt} {a : Act} {TS : List (Array Value)} {R : Type} [Subsingleton R]

theorem result_ok (hΓ : GamOk P Γ) (h : StOk c w H ρ) {cur : List AV} {tmps : Array Value} (hfr : FrOk w (Avoid c.X H ρ) H ρ cur tmps) {g : ResultVar → Sem Value} (hg1 : ∀ t, g (.tmp t) = pure (tmps.getD t undef)) (hg2 : ∀ ad t, g (.cell ad t) = do loadVar t (← asAddr (tmps.getD ad undef))) :
    ∀ (rs : List ResultVar) {vs : List AV}, resAVs Γ H cur rs = some vs → ∃ us : List Value, (rs.mapM g).run P w = .ok us w ∧ AllRV w (Avoid c.X H ρ) H ρ vs us ∧ ∀ v, v ∈ vs → v.isTup = false
  | [], vs, hr => by
    simp only [resAVs, Option.some.injEq] at hr
    subst hr
    exact ⟨[], by simp, rfl, fun v hv => by cases hv⟩
  | r :: rs, vs, hr => by
    simp only [resAVs] at hr
    split at hr
    · rename_i v vs' h1 h2
      split at hr
      · cases hr
      · rename_i ht
        cases hr
        obtain ⟨us, g1, g2, g3⟩ := result_ok hΓ h hfr hg1 hg2 rs h2
        have one : ∃ u, (g r).run P w = .ok u w ∧ RV w (Avoid c.X H ρ) H ρ v u := by
          cases r with
          | tmp t =>
            simp only [resAV, Option.some.injEq] at h1
            subst h1
            exact ⟨_, by rw [hg1]; rfl, hfr.at_ t⟩
          | cell ad t =>
            simp only [resAV] at h1
            split at h1
            · rename_i v' hl
              cases h1
              have hx := hfr.at_ ad
              obtain ⟨⟨val, e1, e2⟩, _⟩ := load_val hΓ h hx hl
              refine ⟨val, ?_, e2⟩
              rw [hg2, Sem.run_bind]
              generalize tmps.getD ad undef = xv at e1 ⊢
              unfold Instr.loadAt at e1
              rw [Sem.run_bind] at e1
              cases xv with
              | pointer q =>
                cases q with
                | some q => exact e1
                | none => simp [Instr.sureAddr, stuck] at e1
              | _ => simp [Instr.sureAddr, stuck] at e1
            · cases h1
        obtain ⟨u, e1, e2⟩ := one
        refine ⟨u :: us, ?_, ⟨u, us, rfl, e2, g2⟩, fun x hx => ?_⟩
        · rw [List.mapM_cons, Sem.run_bind, e1]
          simp only [Result.andThen_ok]
          rw [Sem.run_bind, g1]
          rfl
        · rcases List.mem_cons.1 hx with rfl | hx
          · simpa using ht
          · exact g3 x hx
    · cases hr

theorem results_ok (hΓ : GamOk P Γ) (h : StOk c w H ρ) {cur : List AV} {tmps : Array Value} (hfr : FrOk w (Avoid c.X H ρ) H ρ cur tmps) {fn : Func} {vs : List AV} (hr : resAVs Γ H cur fn.results.toList = some vs) :
    ∃ v us, (results fn tmps).run P w = .ok v w ∧ AllRV w (Avoid c.X H ρ) H ρ vs us ∧ IsPacked us v ∧ ∀ v, v ∈ vs → v.isTup = false := by
  have key := fun (g : ResultVar → Sem Value) hg1 hg2 => result_ok (g := g) hΓ h hfr hg1 hg2 fn.results.toList hr
  obtain ⟨us, h1, h2, h3⟩ := key (fun | .tmp t => pure (tmps.getD t undef) | .cell ad t => do loadVar t (← asAddr (tmps.getD ad undef))) (fun _ => rfl) (fun _ _ => rfl)
  refine ⟨if h : us.toArray.size = 1 then us.toArray[0] else .tuple us.toArray, us, ?_, h2, ?_, h3⟩
  · unfold results
    rw [Array.mapM_eq_mapM_toList, Sem.run_bind]
    have e : ∀ (m : Sem (List Value)), m.run P w = .ok us w → (List.toArray <$> m).run P w = .ok us.toArray w := by
      intro m hm
      rw [← bind_pure_comp, Sem.run_bind, hm]; rfl
    have h1' := e _ h1
    have : ∀ g : ResultVar → Sem Value, g = (fun | .tmp t => pure (tmps.getD t undef) | .cell ad t => do loadVar t (← asAddr (tmps.getD ad undef))) → ((List.toArray <$> fn.results.toList.mapM g).run P w).andThen (fun vs w' => (pure (if h : vs.size = 1 then vs[0] else .tuple vs) : Sem Value).run P w') = .ok (if h : us.toArray.size = 1 then us.toArray[0] else .tuple us.toArray) w := by
      intro g hg
      rw [hg, h1']; rfl
    exact this _ (by funext r; cases r <;> rfl)
  · match us with
    | [] => rfl
    | [u] => rfl
    | u :: u2 :: r => rfl

/-- The run of a function's body. -/
theorem body_ok (hΓ : GamOk P Γ) {orc : Orcs} (hO : OrcsOk P orc) (hD : DrawnOk P Γ orc) {call : CallTo R} (hC : CallOk P call) {f : FuncId} {fn : Func} (hf : P.funcs[f]? = some fn) {hint : Hint} {F : Nat} {args : List AV} {kk : List AV → ASt → Option R} {r : R}
    (hx : runBody Γ orc call hint F fn args st kk = some r) : fn.body.isNone = false ∧ ∀ (tm : Array Value) (us : List Value), StOk c w st.heap ρ → StkOk w (Avoid c.X st.heap ρ) st.heap ρ (st.cur :: st.stk) (tm :: TS) → AllRV w (Avoid c.X st.heap ρ) st.heap ρ args us →
    ∀ RR : Ending → World → Prop, (∀ vs us v st' w' ρ', kk vs st' = some r → StOk c w' st'.heap ρ' → StkOk w' (Avoid c.X st'.heap ρ') st'.heap ρ' (st'.cur :: st'.stk) (tm :: TS) → AllRV w' (Avoid c.X st'.heap ρ') st'.heap ρ' vs us → IsPacked us v → (∀ v, v ∈ vs → v.isTup = false) → RR (.returned v) w') → Calls P f us.toArray w RR := by
  unfold runBody at hx
  split at hx
  · cases hx
  · rename_i cd hb
    obtain ⟨hle, hx⟩ := ite_some hx
    refine ⟨by rw [hb]; rfl, fun tm us hst hstk hargs RR hRR => ?_⟩
    have hlen := hargs.length
    have hcur : ∀ (vs : List AV) (us : List Value) (n : Nat), AllRV w (Avoid c.X st.heap ρ) st.heap ρ vs us → FrOk w (Avoid c.X st.heap ρ) st.heap ρ (vs ++ List.replicate n .dead) (us.toArray ++ Array.replicate n undef) := by
      intro vs us n h
      refine ⟨by simp [h.length], fun i => ?_⟩
      have : ∀ (vs : List AV) (us : List Value) (i : Nat), AllRV w (Avoid c.X st.heap ρ) st.heap ρ vs us → i < vs.length → ∃ v u, vs[i]? = some v ∧ us[i]? = some u ∧ RV w (Avoid c.X st.heap ρ) st.heap ρ v u := by
        intro vs
        induction vs with
        | nil => intro us i _ hi; simp at hi
        | cons v vs ih =>
          intro us i h hi
          obtain ⟨u, r, rfl, h1, h2⟩ := h
          cases i with
          | zero => exact ⟨v, u, rfl, rfl, h1⟩
          | succ i =>
            obtain ⟨v', u', e1, e2, e3⟩ := ih r i h2 (by simpa using hi)
            exact ⟨v', u', by simpa using e1, by simpa using e2, e3⟩
      rcases Nat.lt_or_ge i vs.length with hi | hi
      · obtain ⟨v, u, e1, e2, e3⟩ := this vs us i h hi
        have a1 : (vs ++ List.replicate n AV.dead).getD i .dead = v := by simp only [List.getD, List.getElem?_append_left hi, e1, Option.getD_some]
        have a2 : (us.toArray ++ Array.replicate n undef).getD i undef = u := by
          have hi' : i < us.length := by rw [h.length]; exact hi
          have a3 : (us.toArray ++ Array.replicate n undef)[i]? = some u := by
            rw [← Array.getElem?_toList, Array.toList_append, List.toList_toArray, List.getElem?_append_left hi']; exact e2
          rw [Array.getD_eq_getD_getElem?, a3]; rfl
        rw [a1, a2]; exact e3
      · have a1 : (vs ++ List.replicate n AV.dead).getD i .dead = .dead := by
          simp only [List.getD, List.getElem?_append, List.getElem?_replicate]
          rw [if_neg (by omega)]
          split <;> rfl
        rw [a1]; exact trivial
    refine calls_of_wp hf hb ?_
    have hsz : us.toArray.size = args.length := by simp [hlen]
    rw [hsz]
    refine exec_ok (TS := tm :: TS) hΓ hO hD hC (head_ok _ _) cd hx ⟨hst, hcur args us _ hargs, hstk, rfl⟩ (fun e st' a' w' ρ' hk h' => ?_)
    have fin : (match st'.stk with
          | c0 :: stk => match resAVs Γ st'.heap st'.cur fn.results.toList with
            | some vs => kk vs { cur := c0, stk := stk, heap := st'.heap }
            | none => none
          | [] => none) = some r → a'.defers = [] ∧ ∃ v, (results fn a'.tmps).run P w' = .ok v w' ∧ RR (.returned v) w' := by
      intro hk
      split at hk
      · rename_i c0 stk hs
        split at hk
        · rename_i vs hr
          obtain ⟨v, us', g1, g2, g3, g4⟩ := results_ok hΓ h'.ok h'.cur hr
          have hs' := h'.stk
          rw [hs] at hs'
          exact ⟨h'.defers, v, g1, hRR vs us' v _ w' ρ' hk h'.ok hs' g2 g3 g4⟩
        · cases hk
      · cases hk
    cases e with
    | normal => exact fin hk
    | ret => exact fin hk
    | exit id => cases hk

/-- No function of the program's own is runtime.NumGoroutine. -/
def NoNum (P : Program) : Prop := ∀ (f : Nat) (fn : Func), P.funcs[f]? = some fn → fn.body.isNone = false → (fn.name == "runtime.NumGoroutine") = false

theorem acall_ok (hN : NoNum P) {B : Book} (hΓ : GamOk P B.Γ) (hO : OrcsOk P B.orc) (hD : DrawnOk P B.Γ B.orc) (F : Nat) : ∀ d : Nat, CallOk P (acall (R := R) P B F d)
  | 0 => fun f as st kk r h => by cases h
  | d + 1 => fun f as st kk r h => by
    simp only [acall] at h
    split at h
    · rename_i fn hf
      have hb := body_ok (c := ⟨default, [], fun _ => False⟩) (w := default) (ρ := fun _ => none) (TS := []) hΓ hO hD (acall_ok hN hΓ hO hD F d) hf h
      refine ⟨⟨fn, hf, hN f fn hf hb.1, hb.1⟩, fun c w ρ tm TS us h1 h2 h3 RR hRR => ?_⟩
      exact (body_ok hΓ hO hD (acall_ok hN hΓ hO hD F d) hf h).2 tm us h1 h2 h3 RR (fun vs us' v st' w' ρ' k1 k2 k3 k4 k5 k6 => hRR _ v st' w' ρ' k1 k2 k3 (packed_rv k6 k4 k5))
    · cases h

/-- What a run of the machine says of a function. -/
theorem contract_of_run (hN : NoNum P) {B : Book} (hΓ : GamOk P B.Γ) (hO : OrcsOk P B.orc) (hD : DrawnOk P B.Γ B.orc) {f : FuncId} {k : Orc} {ms : List PM} (hthere : ∃ fn, P.funcs[f]? = some fn ∧ fn.body.isNone = false)
    (h : ∀ bs rs, k.fn bs = some (true, rs) → bs.map BV.mode = k.ps → ∃ F d, ∀ kend : List BV → Option Unit, kend rs = some () → runFn P B F d f bs ms kend = some ()) : Contract P f k := by
  classical
  obtain ⟨fn, hf, hfb⟩ := hthere
  refine ⟨⟨fn, hf, hN f fn hf hfb, hfb⟩, fun bs rs hk hm c ρ vals hst hv RR hRR => ?_⟩
  obtain ⟨F, d, hrun⟩ := h bs rs hk hm
  have hrun := hrun (fun bs' => if bs' = rs then some () else none) (if_pos rfl)
  unfold runFn at hrun
  rw [hf] at hrun
  simp only [ofArgs_eq, List.nil_append, List.length_nil] at hrun
  refine (body_ok (TS := []) hΓ hO hD (acall_ok hN hΓ hO hD F d) hf hrun).2 #[] vals hst ⟨#[], [], rfl, ⟨rfl, fun i => by simp [List.getD]; exact trivial⟩, rfl⟩ hv RR (fun vs us v st' w' ρ' k1 k2 _ k4 k5 _ => ?_)
  split at k1
  · rename_i bs' U ha
    obtain ⟨ho, k1⟩ := ite_some k1
    obtain ⟨hb, _⟩ := ite_some k1
    subst hb
    have hA := toArgs_is ms vs ha
    obtain ⟨g1, g2⟩ := hand_core (c2 := c) k2 ha ho k4 (fun b hb => .inl hb) (fun o _ g C hl hr => (k2.lt hl hr).2.notX) (fun o _ g C hl hr => (k2.lt hl hr).2) k2.fr k2.old
    exact hRR v us w' _ g1 g2 k5
  · cases k1
end
end Go.AI
