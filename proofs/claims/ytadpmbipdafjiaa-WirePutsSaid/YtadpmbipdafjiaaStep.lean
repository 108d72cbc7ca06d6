/- One operation that is no run of a body. -/
import Derived.Test.YtadpmbipdafjiaaOrc
namespace Go.AI
open Go Go.RowKit

section
variable {P : Program} {Γ : Gam} {c c2 : Ctx} {w w' : World} {H H1 H2 R : List AObj} {ρ ρ' : Rho} {cur : List AV} {a : Act} {o : Oper}

theorem RV.dat_mono {A A' : Nat → Prop} {ρ ρ' : Rho} {s : Sch} {x : s.T} {val : Value} (hm : ∀ cs, RepC w A s x cs → RepC w' A' s x cs) (h : RV w A H ρ (.dat s x) val) : RV w' A' H2 ρ' (.dat s x) val := by
  have h1 := h.dat_
  show RV1 (RX w' A' H2 ρ' (.dat s x)) (.dat s x) val
  cases ha : s.agg with
  | true =>
    rw [ha] at h1
    obtain ⟨cs, e, h1⟩ := h1
    show if s.agg = true then _ else _
    rw [ha]
    exact ⟨cs, e, hm cs h1⟩
  | false =>
    rw [ha] at h1
    show if s.agg = true then _ else _
    rw [ha]
    exact hm _ h1

/-- Results, taken over. -/
theorem avs_move {A A' : Nat → Prop} (hA : ∀ b, A' b → A b) : ∀ (rs : List BV) {us : List Value} (m n : Nat), AllRV w A R ρ' (avsB rs m) us → (∀ j, j < (rowsB rs).length → ASt.obj H2 (n + j) = ASt.obj R (m + j) ∧ ρ (n + j) = ρ' (m + j)) → AllRV w A' H2 ρ (avsB rs n) us
  | [], us, m, n, h, _ => h
  | .d s x :: rs, us, m, n, ⟨u, r, e, h1, h2⟩, hj => ⟨u, r, e, RV.dat_mono (fun cs => RepC.keeps (Keeps.refl _ _) (fun b _ hb => hA b hb) s) h1, avs_move hA rs m n h2 hj⟩
  | .f g :: rs, us, m, n, ⟨u, r, e, h1, h2⟩, hj => ⟨u, r, e, h1, avs_move hA rs m n h2 hj⟩
  | .o E s xs :: rs, us, m, n, ⟨u, r, e, h1, h2⟩, hj => by
    have h0 := hj 0 (by simp [rowsB])
    refine ⟨u, r, e, SlR.move h0.1 h0.2 (h1 : SlR R ρ' m 0 none [u]), avs_move hA rs (m + 1) (n + 1) h2 (fun j hlt => ?_)⟩
    have := hj (j + 1) (by simp [rowsB]; omega)
    rwa [show n + (j + 1) = n + 1 + j by omega, show m + (j + 1) = m + 1 + j by omega] at this
theorem avs_flat {A A' : Nat → Prop} : ∀ (rs : List BV) {us : List Value} (m n : Nat), rs.all BV.flat = true → AllRV w A R ρ' (avsB rs m) us → (∀ j, j < (rowsB rs).length → ASt.obj H2 (n + j) = ASt.obj R (m + j) ∧ ρ (n + j) = ρ' (m + j)) → AllRV w A' H2 ρ (avsB rs n) us
  | [], us, m, n, _, h, _ => h
  | .d s x :: rs, us, m, n, hf, ⟨u, r, e, h1, h2⟩, hj => by
    simp only [List.all_cons, Bool.and_eq_true] at hf
    exact ⟨u, r, e, RV.dat_mono (fun cs => RepC.flat s hf.1) h1, avs_flat rs m n hf.2 h2 hj⟩
  | .f g :: rs, us, m, n, hf, ⟨u, r, e, h1, h2⟩, hj => by
    simp only [List.all_cons, Bool.and_eq_true] at hf
    exact ⟨u, r, e, h1, avs_flat rs m n hf.2 h2 hj⟩
  | .o E s xs :: rs, us, m, n, hf, ⟨u, r, e, h1, h2⟩, hj => by
    simp only [List.all_cons, Bool.and_eq_true] at hf
    have h0 := hj 0 (by simp [rowsB])
    refine ⟨u, r, e, SlR.move h0.1 h0.2 (h1 : SlR R ρ' m 0 none [u]), avs_flat rs (m + 1) (n + 1) hf.2 h2 (fun j hlt => ?_)⟩
    have := hj (j + 1) (by simp [rowsB]; omega)
    rwa [show n + (j + 1) = n + 1 + j by omega, show m + (j + 1) = m + 1 + j by omega] at this

theorem ofRess_ok : ∀ (rs : List BV) (nid : Nat) {vs : List AV} {U : Upd}, ofRess H rs nid = some (vs, U) →
    vs = avsB rs nid ∧ (∀ j, j < (rowsB rs).length → nid + j < H.length ∧ ASt.obj H (nid + j) = .free) ∧ (∀ x, x ∈ U → nid ≤ x.1 ∧ x.1 < nid + (rowsB rs).length) ∧
      ∀ H1 : List AObj, H1.length = H.length → ∀ j, j < (rowsB rs).length → ASt.obj (upd H1 U) (nid + j) = ASt.obj (rowsB rs) j
  | [], nid, vs, U, h => by
    simp only [ofRess, Option.some.injEq, Prod.mk.injEq] at h
    obtain ⟨rfl, rfl⟩ := h
    exact ⟨rfl, fun j hj => by simp [rowsB] at hj, fun x hx => (by cases hx), fun _ _ j hj => by simp [rowsB] at hj⟩
  | .d s x :: rs, nid, vs, U, h => by
    simp only [ofRess] at h
    cases hr : ofRess H rs nid with
    | none => rw [hr] at h; cases h
    | some r =>
      obtain ⟨vs', U'⟩ := r
      rw [hr] at h; cases h
      obtain ⟨rfl, h2, h3, h4⟩ := ofRess_ok rs nid hr
      exact ⟨rfl, h2, h3, h4⟩
  | .f g :: rs, nid, vs, U, h => by
    simp only [ofRess] at h
    cases hr : ofRess H rs nid with
    | none => rw [hr] at h; cases h
    | some r =>
      obtain ⟨vs', U'⟩ := r
      rw [hr] at h; cases h
      obtain ⟨rfl, h2, h3, h4⟩ := ofRess_ok rs nid hr
      exact ⟨rfl, h2, h3, h4⟩
  | .o E s xs :: rs, nid, vs, U, h => by
    simp only [ofRess] at h
    cases hU : newObj? H nid (.row E s xs false) with
    | none => rw [hU] at h; cases h
    | some U1 =>
      cases hr : ofRess H rs (nid + 1) with
      | none => rw [hU, hr] at h; cases h
      | some r =>
        obtain ⟨vs', U'⟩ := r
        rw [hU, hr] at h
        simp only [Option.some.injEq, Prod.mk.injEq] at h
        obtain ⟨rfl, rfl⟩ := h
        obtain ⟨hlt, hfr, rfl⟩ := newObj_some hU
        obtain ⟨rfl, h2, h3, h4⟩ := ofRess_ok rs (nid + 1) hr
        refine ⟨rfl, fun j hj => ?_, fun x hx => ?_, fun H1 hl j hj => ?_⟩
        · cases j with
          | zero => exact ⟨hlt, hfr⟩
          | succ j =>
            have := h2 j (by simp only [rowsB, List.length_cons] at hj; omega)
            rwa [show nid + (j + 1) = nid + 1 + j by omega]
        · simp only [rowsB, List.length_cons]
          rcases List.mem_append.1 hx with hx | hx
          · simp only [List.mem_singleton] at hx
            subst hx
            exact ⟨Nat.le_refl _, by simp only; omega⟩
          · have := h3 x hx; omega
        · rw [upd_append]
          cases j with
          | zero =>
            rw [upd_other U' _ (fun x hx e => by have := h3 x hx; omega)]
            show ASt.obj (H1.set nid _) nid = _
            rw [obj_set_same (by omega)]; rfl
          | succ j =>
            have := h4 (upd H1 [(nid, .row E s xs false)]) (by rw [upd_len]; exact hl) j (by simp only [rowsB, List.length_cons] at hj; omega)
            rw [show nid + (j + 1) = nid + 1 + j by omega, this]
            rfl

theorem avsB_noTup : ∀ (rs : List BV) (n : Nat) (v : AV), v ∈ avsB rs n → v.isTup = false
  | [], n, v, h => by simp [avsB] at h
  | .d s x :: rs, n, v, h => by
    rcases List.mem_cons.1 h with rfl | h
    · rfl
    · exact avsB_noTup rs n v h
  | .f g :: rs, n, v, h => by
    rcases List.mem_cons.1 h with rfl | h
    · rfl
    · exact avsB_noTup rs n v h
  | .o E s xs :: rs, n, v, h => by
    rcases List.mem_cons.1 h with rfl | h
    · rfl
    · exact avsB_noTup rs (n + 1) v h

/-- A call by its contract. -/
theorem orc_ok (h : StOk c w H ρ) {k : Orc} {f : FuncId} (hk : Contract P f k) {as : List AV} {us : List Value} {nid : Nat} {v : AV} {U : Upd} (hv : AllRV w (Avoid c.X H ρ) H ρ as us) (ha : aOrc k as H nid = some (true, v, U)) :
    ∀ R : Ending → World → Prop, (∀ val w' ρ', RV w' (Avoid c.X (upd H U) ρ') (upd H U) ρ' v val → Tr c w H ρ w' (upd H U) ρ' → R (.returned val) w') → Calls P f us.toArray w R := by
  intro RR hR
  unfold aOrc at ha
  split at ha
  · rename_i bs V hargs
    obtain ⟨ho, ha⟩ := ite_some ha
    split at ha
    · rename_i pre rs hfn
      obtain ⟨⟨_, hfl⟩, ha⟩ := ite_some ha
      cases hof : ofRess H rs nid with
      | none => rw [hof] at ha; cases ha
      | some r =>
        obtain ⟨vs, W⟩ := r
        rw [hof] at ha
        simp only [Option.map_some, Option.some.injEq, Prod.mk.injEq] at ha
        obtain ⟨rfl, rfl, rfl⟩ := ha
        have hA := toArgs_is k.ps as hargs
        obtain ⟨rfl, hfree, hWr, hnew⟩ := ofRess_ok rs nid hof
        obtain ⟨ht, hgone, hfrz⟩ := hand_tame hA ho
        -- the call's own view of the world
        let S' : List Nat := (handN k.ps as).filterMap fun o => (ρ o).map (·.1)
        let X' : Nat → Prop := fun b => k.fresh = false ∧ Avoid c.X (upd H V) ρ b
        let c2 : Ctx := ⟨w, S', X'⟩
        have handed : ∀ o, o ∈ handN k.ps as → (ASt.obj H o).mut = true := by
          intro o hm
          obtain ⟨j, hj⟩ := List.mem_iff_getElem?.1 (List.mem_filterMap.1 hm).choose_spec.1
          have e := (List.mem_filterMap.1 hm).choose_spec.2
          simp only [id] at e
          rw [e] at hj
          obtain ⟨E, s, xs, h1, _⟩ := hA.row_ j o hj
          rw [h1]; rfl
        have hSmem : ∀ g, g ∈ S' → ∃ o C, o ∈ handN k.ps as ∧ ρ o = some (g, C) := by
          intro g hg
          obtain ⟨o, hm, he⟩ := List.mem_filterMap.1 hg
          cases hr : ρ o with
          | none => rw [hr] at he; cases he
          | some p =>
            rw [hr] at he
            simp only [Option.map_some, Option.some.injEq] at he
            exact ⟨o, p.2, hm, by rw [hr, ← he]⟩
        have hS : ∀ g, g ∈ c2.S → Own c g ∧ Avoid c.X H ρ g ∧ ∀ o C, (ASt.obj (upd H V) o).live = true → ρ o ≠ some (g, C) := by
          intro g hg
          obtain ⟨o, C, hm, hr⟩ := hSmem g hg
          have hmut := handed o hm
          refine ⟨(h.lt (AObj.mut_live hmut) hr).2, .inr ⟨o, C, hmut, hr⟩, fun o' C' hl hr' => ?_⟩
          have := h.inj o o' g C C' (AObj.mut_live hmut) (ht.live hl).1 hr hr'
          subst this
          rw [hgone o hm] at hl; cases hl
        have hXA : ∀ b, c2.X b → Avoid c.X H ρ b := fun b hb => ht.avoid hb.2
        have notX : ∀ o g C, (ASt.obj H o).live = true → ρ o = some (g, C) → (ASt.obj (upd H V) o).mut = false → ¬ c2.X g := by
          rintro o g C hl hr hm ⟨_, hx | ⟨o', C', hm', hr'⟩⟩
          · exact (h.lt hl hr).2.notX hx
          · have := h.inj o o' g C C' hl (AObj.mut_live (ht.mut hm')) hr hr'
            subst this
            rw [hm'] at hm; cases hm
        obtain ⟨st2, av2⟩ := hand_core (c2 := c2) h hargs ho hv hXA (fun o hd g C hl hr => by
            cases hf : k.fresh with
            | true => rintro ⟨h1, _⟩; rw [hf] at h1; cases h1
            | false =>
              refine notX o g C hl hr ?_
              rw [hfrz hf o hd]
              have hnb := (hA.frz hf o hd).2
              cases hob : ASt.obj H o with
              | box u => exact absurd hob (hnb u)
              | _ => rfl)
          (fun o hm g C hl hr => ⟨.inl (List.mem_filterMap.2 ⟨o, hm, by rw [hr]; rfl⟩), notX o g C hl hr (by rw [hgone o hm]; rfl)⟩)
          ⟨rfl, rfl, rfl, Nat.le_refl _, fun _ _ _ => rfl⟩ (fun b hb => by
            rcases hXA b hb with hx | ⟨o, C, hm, hr⟩
            · exact Nat.lt_of_lt_of_le (h.old b hx) h.fr.size
            · exact (h.lt (AObj.mut_live hm) hr).1)
        refine hk.2 bs rs hfn hA.modes c2 _ us st2 av2 RR (fun val vs' w' ρ' st' av' hp => ?_)
        have hflat : k.fresh = true → rs.all BV.flat = true := fun hf => by simpa [hf] using hfl
        have hX : rs.all BV.flat = true ∨ ∀ b, Avoid c.X (upd H V) ρ b → c2.X b := by
          cases hf : k.fresh with
          | true => exact .inl (hflat hf)
          | false => exact .inr fun b hb => ⟨hf, hb⟩
        have hfree1 : ∀ j, j < (rowsB rs).length → ASt.obj (upd H V) (nid + j) = .free := by
          intro j hj
          have h0 := (hfree j hj).2
          rcases ht (nid + j) with e | e | ⟨_, e⟩
          · rw [e]; exact h0
          · rw [e, h0]; rfl
          · exact absurd h0 e
        have hupd : upd H (V ++ W) = upd (upd H V) W := upd_append H V W
        have T := Tr.called (H2 := upd (upd H V) W) (nid := nid) h ht rfl hS hX st' hfree1 (fun j hj => hnew _ (upd_len _ _) j hj) (fun o ho => upd_other W _ (fun x hx e => ho (by have := hWr x hx; omega)))
        rw [hupd] at hR
        refine hR val w' _ ?_ T
        refine packed_rv (avsB_noTup rs nid) ?_ hp
        cases hf : k.fresh with
        | true => exact avs_flat rs 0 nid (hflat hf) av' (fun j hj => ⟨by rw [hnew _ (upd_len _ _) j hj, Nat.zero_add], by rw [newR_in hj, Nat.zero_add]⟩)
        | false =>
          have hA3 : ∀ b, Avoid c.X (upd (upd H V) W) (newR nid (rowsB rs).length ρ ρ') b → Avoid c2.X (rowsB rs) ρ' b := by
            rintro b (hx | ⟨o, C, hm, hr⟩)
            · exact .inl ⟨hf, .inl hx⟩
            · by_cases ho : nid ≤ o ∧ o < nid + (rowsB rs).length
              · obtain ⟨j, hj, rfl⟩ : ∃ j, j < (rowsB rs).length ∧ o = nid + j := ⟨o - nid, by omega, by omega⟩
                rw [newR_in hj] at hr
                rw [hnew _ (upd_len _ _) j hj] at hm
                exact .inr ⟨j, C, hm, hr⟩
              · rw [newR_out ho] at hr
                rw [upd_other W _ (fun x hx e => ho (by have := hWr x hx; omega))] at hm
                exact .inl ⟨hf, .inr ⟨o, C, hm, hr⟩⟩
          exact avs_move hA3 rs 0 nid av' (fun j hj => ⟨by rw [hnew _ (upd_len _ _) j hj, Nat.zero_add], by rw [newR_in hj, Nat.zero_add]⟩)
    · cases ha
  · cases ha

/-- The contracts of a book hold. -/
def OrcsOk (P : Program) (orc : Orcs) : Prop := ∀ f k, orc f = some k → Contract P f k

/-- A callee and its arguments. -/
theorem callee_ok (hfr : FrOk w (Avoid c.X H ρ) H ρ cur a.tmps) {f : Operand} {args : Array Operand} {g : FuncId} {as : List AV} (hc : calleeOf cur f (args.toList.map (opnd cur)) = some (g, as)) (hop : ∃ ts, o.op = .call { callee := .value f, args := args, argTypes := ts }) :
    ∃ us : List Value, AllRV w (Avoid c.X H ρ) H ρ as us ∧ ∀ w', (execOp a.eval o).run P w' = (callFunc g us.toArray).run P w' := by
  obtain ⟨ts, hop⟩ := hop
  unfold calleeOf at hc
  split at hc
  · rename_i g' caps hf
    cases hu : unchain caps with
    | none => rw [hu] at hc; cases hc
    | some cs =>
      rw [hu] at hc
      simp only [Option.map_some, Option.some.injEq, Prod.mk.injEq] at hc
      obtain ⟨rfl, rfl⟩ := hc
      have hv := opnd_ok hfr f
      rw [hf] at hv
      obtain ⟨vs, hcs, hr⟩ := (hv : ∃ vs : List Value, [a.eval f] = [Value.func (.func g') #[] vs.toArray] ∧ RX w (Avoid c.X H ρ) H ρ caps false vs)
      simp only [List.cons.injEq, and_true] at hcs
      refine ⟨args.toList.map a.eval ++ vs, AllRV.append (AllRV.of_map _ _ (fun x => opnd_ok hfr x) _) (AllRV.unchain hu hr), fun w' => ?_⟩
      have e : (args.toList.map a.eval ++ vs).toArray = args.map a.eval ++ vs.toArray := by
        apply Array.ext'; simp
      rw [e]
      simp [execOp, hop, resolve, hcs, Deferred.ofValue, invoke]
  · cases hc

theorem astep_ok (hΓ : GamOk P Γ) {orc : Orcs} (hO : OrcsOk P orc) (h : StOk c w H ρ) (hfr : FrOk w (Avoid c.X H ρ) H ρ cur a.tmps) {nid : Nat} {v : AV} {U : Upd} (ha : astep Γ orc o.op cur H nid = some (true, v, U)) : StepOk P c w H ρ o a v U := by
  unfold astep at ha
  split at ha
  · rename_i f args ts hop
    split at ha
    · rename_i g as hc
      split at ha
      · rename_i k hk
        obtain ⟨_, ha⟩ := ite_some ha
        obtain ⟨us, hv, hrun⟩ := callee_ok (P := P) hfr hc ⟨_, hop⟩
        have hC := hO g k hk
        intro next Q hn
        unfold Oper.wp
        rw [hrun, run_callFunc hC.1, Oper.upon_enter]
        exact orc_ok h hC hv ha _ (fun val w' ρ' h1 h2 => hn val w' ρ' h1 h2)
      · cases ha
    · cases ha
  · exact aop_ok hΓ h hfr ha
end
end Go.AI
