/- What is handed over at a call, and at its end. -/
import Derived.Test.YtadpmbipdafjiaaCall
namespace Go.AI
open Go Go.RowKit

/-- The rows that are handed over; the objects behind plain data. -/
def handL : List PM → List AV → List (Option Nat)
  | .o _ _ :: ms, .row o :: vs => some o :: handL ms vs
  | .o _ _ :: ms, _ :: vs => none :: handL ms vs
  | .d _ :: ms, _ :: vs => handL ms vs
  | .f :: ms, _ :: vs => handL ms vs
  | _, _ => []
def datRefs : List PM → List AV → List Nat
  | .d _ :: ms, v :: vs => v.refs ++ datRefs ms vs
  | .o _ _ :: ms, _ :: vs => datRefs ms vs
  | .f :: ms, _ :: vs => datRefs ms vs
  | _, _ => []
def handN (ms : List PM) (vs : List AV) : List Nat := (handL ms vs).filterMap id

theorem count_le (o : Nat) : ∀ (ms : List PM) (vs : List AV), (handN ms vs).count o + (datRefs ms vs).count o ≤ (vs.flatMap AV.refs).count o
  | [], [] => by simp [handN, handL, datRefs]
  | [], _ :: _ => by simp [handN, handL, datRefs]
  | .o _ _ :: _, [] => by simp [handN, handL, datRefs]
  | .d _ :: _, [] => by simp [handN, handL, datRefs]
  | .f :: _, [] => by simp [handN, handL, datRefs]
  | .d s :: ms, v :: vs => by
    have ih := count_le o ms vs
    simp only [handN] at ih
    simp only [handN, handL, datRefs, List.flatMap_cons, List.count_append]; omega
  | .f :: ms, v :: vs => by
    have ih := count_le o ms vs
    simp only [handN] at ih
    simp only [handN, handL, datRefs, List.flatMap_cons, List.count_append]; omega
  | .o E s :: ms, v :: vs => by
    have ih := count_le o ms vs
    simp only [handN] at ih
    cases v <;> simp only [handN, handL, datRefs, List.flatMap_cons, List.count_append, AV.refs, List.filterMap_cons, id] <;> (try simp only [List.count_cons, List.count_nil]) <;> omega

structure ArgIs (H : List AObj) (fresh : Bool) (ms : List PM) (vs : List AV) (bs : List BV) (U : Upd) : Prop where
  modes : bs.map BV.mode = ms
  len : (rowsB bs).length = (handL ms vs).length
  row_ : ∀ (j o : Nat), (handL ms vs)[j]? = some (some o) → ∃ E s xs, ASt.obj H o = AObj.row E s xs false ∧ (rowsB bs)[j]? = some (AObj.row E s xs false)
  nil_ : ∀ (j : Nat), (handL ms vs)[j]? = some none → ∃ E s, (rowsB bs)[j]? = some (AObj.row E s [] false)
  gone_ : ∀ (o : Nat), o ∈ handN ms vs → (o, AObj.gone) ∈ U
  upd_ : ∀ (x : Nat × AObj), x ∈ U → (x.2 = .gone ∧ x.1 ∈ handN ms vs) ∨ (fresh = false ∧ x.2 = freezeObj (ASt.obj H x.1) ∧ x.1 ∈ datRefs ms vs)
  frz : fresh = false → ∀ (o : Nat), o ∈ datRefs ms vs → (o, freezeObj (ASt.obj H o)) ∈ U ∧ ∀ u, ASt.obj H o ≠ .box u

theorem toArgs_is {H : List AObj} {fresh : Bool} : ∀ (ms : List PM) (vs : List AV) {bs : List BV} {U : Upd}, toArgs fresh H ms vs = some (bs, U) → ArgIs H fresh ms vs bs U
  | [], [], bs, U, h => by
    simp only [toArgs, Option.some.injEq, Prod.mk.injEq] at h
    obtain ⟨rfl, rfl⟩ := h
    exact ⟨rfl, rfl, fun j o hj => by simp [handL] at hj, fun j hj => by simp [handL] at hj, fun o ho => by simp [handN, handL] at ho, fun x hx => (by cases hx), fun _ o ho => by simp [datRefs] at ho⟩
  | [], _ :: _, bs, U, h => by simp [toArgs] at h
  | _ :: _, [], bs, U, h => by simp [toArgs] at h
  | m :: ms, v :: vs, bs, U, h => by
    simp only [toArgs] at h
    split at h
    · rename_i b U1 bs' V h1 h2
      simp only [Option.some.injEq, Prod.mk.injEq] at h
      obtain ⟨rfl, rfl⟩ := h
      have ih := toArgs_is ms vs h2
      cases m with
      | d s =>
        rw [toArg] at h1
        cases hd : toDat fresh H s v with
        | none => rw [hd] at h1; cases h1
        | some x =>
          rw [hd] at h1; cases h1
          refine ⟨by simp [BV.mode, ih.modes], ih.len, ih.row_, ih.nil_, fun o ho => List.mem_append_right _ (ih.gone_ o ho), fun x hx => ?_, fun hf o ho => ?_⟩
          · rcases List.mem_append.1 hx with hx | hx
            · cases fresh with
              | true => cases hx
              | false =>
                obtain ⟨o, ho, rfl⟩ := List.mem_map.1 hx
                exact .inr ⟨rfl, rfl, List.mem_append_left _ ho⟩
            · rcases ih.upd_ x hx with h | ⟨a1, a2, a3⟩
              · exact .inl h
              · exact .inr ⟨a1, a2, List.mem_append_right _ a3⟩
          · subst hf
            rcases List.mem_append.1 ho with ho | ho
            · exact ⟨List.mem_append_left _ (List.mem_map.2 ⟨o, ho, rfl⟩), toDat_rows v s hd o ho⟩
            · exact ⟨List.mem_append_right _ (ih.frz rfl o ho).1, (ih.frz rfl o ho).2⟩
      | o E s =>
       cases v with
       | nils =>
        rw [toArg] at h1
        cases h1
        refine ⟨by simp [BV.mode, ih.modes], by simp [rowsB, handL, ih.len], fun j o hj => ?_, fun j hj => ?_, fun o ho => ih.gone_ o ho, fun x hx => ih.upd_ x hx, fun hf o ho => ih.frz hf o ho⟩
        · cases j with
          | zero => simp [handL] at hj
          | succ j => simpa [rowsB] using ih.row_ j o (by simpa [handL] using hj)
        · cases j with
          | zero => exact ⟨E, s, rfl⟩
          | succ j => simpa [rowsB] using ih.nil_ j (by simpa [handL] using hj)
       | row o =>
        rw [toArg] at h1
        split at h1
        · rename_i E' s' xs hob
          split at h1
          · rename_i hs
            obtain ⟨rfl, rfl⟩ := hs
            cases h1
            refine ⟨by simp [BV.mode, ih.modes], by simp [rowsB, handL, ih.len], fun j o' hj => ?_, fun j hj => ?_, fun o' ho => ?_, fun x hx => ?_, fun hf o' ho => ⟨List.mem_append_right _ (ih.frz hf o' ho).1, (ih.frz hf o' ho).2⟩⟩
            · cases j with
              | zero =>
                simp only [handL, List.getElem?_cons_zero, Option.some.injEq] at hj
                subst hj
                exact ⟨E', s', xs, hob, rfl⟩
              | succ j => simpa [rowsB] using ih.row_ j o' (by simpa [handL] using hj)
            · cases j with
              | zero => simp [handL] at hj
              | succ j => simpa [rowsB] using ih.nil_ j (by simpa [handL] using hj)
            · simp only [handN, handL, List.filterMap_cons, id, List.mem_cons] at ho
              rcases ho with rfl | ho
              · exact List.mem_append_left _ (by simp)
              · exact List.mem_append_right _ (ih.gone_ o' ho)
            · rcases List.mem_append.1 hx with hx | hx
              · simp only [List.mem_singleton] at hx
                subst hx
                exact .inl ⟨rfl, by simp [handN, handL]⟩
              · rcases ih.upd_ x hx with ⟨a1, a2⟩ | h
                · refine .inl ⟨a1, ?_⟩
                  simp only [handN, handL, List.filterMap_cons, id, List.mem_cons]
                  exact .inr a2
                · exact .inr h
          · cases h1
        · cases h1
       | _ => simp [toArg] at h1
      | f =>
       cases v with
       | fn g cp =>
        cases cp with
        | un =>
          rw [toArg] at h1
          cases h1
          exact ⟨by simp [BV.mode, ih.modes], ih.len, ih.row_, ih.nil_, ih.gone_, ih.upd_, ih.frz⟩
        | _ => simp [toArg] at h1
       | _ => simp [toArg] at h1
    · cases h

/-- What is handed over is handed over once, and lies behind nothing else. -/
theorem once_ok {H : List AObj} {fresh : Bool} {ms : List PM} {vs : List AV} {bs : List BV} {U : Upd} (hA : ArgIs H fresh ms vs bs U) (ho : onceOnly U vs = true) {o : Nat} (hm : o ∈ handN ms vs) : (handN ms vs).count o = 1 ∧ o ∉ datRefs ms vs := by
  have hg : o ∈ goneOf U := by
    unfold goneOf
    rw [List.mem_filterMap]
    exact ⟨(o, .gone), hA.gone_ o hm, rfl⟩
  have hc := List.all_eq_true.1 ho o hg
  simp only [beq_iff_eq] at hc
  have := count_le o ms vs
  have h1 : 0 < (handN ms vs).count o := List.count_pos_iff.2 hm
  refine ⟨by omega, fun hd => ?_⟩
  have h2 : 0 < (datRefs ms vs).count o := List.count_pos_iff.2 hd
  omega

theorem mem_handN {ms : List PM} {vs : List AV} {j o : Nat} (h : (handL ms vs)[j]? = some (some o)) : o ∈ handN ms vs := by
  unfold handN
  rw [List.mem_filterMap]
  exact ⟨some o, List.mem_of_getElem? h, rfl⟩

theorem count_two {l : List (Option Nat)} {o : Nat} : ∀ {i j : Nat}, l[i]? = some (some o) → l[j]? = some (some o) → i ≠ j → 2 ≤ (l.filterMap id).count o := by
  induction l with
  | nil => intro i j h; simp at h
  | cons x l ih =>
    intro i j hi hj hne
    have one : ∀ {k : Nat}, l[k]? = some (some o) → 1 ≤ (l.filterMap id).count o := fun {k} hk => List.count_pos_iff.2 (List.mem_filterMap.2 ⟨some o, List.mem_of_getElem? hk, rfl⟩)
    cases i with
    | zero =>
      cases j with
      | zero => exact absurd rfl hne
      | succ j =>
        simp only [List.getElem?_cons_zero, Option.some.injEq] at hi
        subst hi
        simp only [List.getElem?_cons_succ] at hj
        have := one hj
        simp only [List.filterMap_cons, id, List.count_cons_self]; omega
    | succ i =>
      cases j with
      | zero =>
        simp only [List.getElem?_cons_zero, Option.some.injEq] at hj
        subst hj
        simp only [List.getElem?_cons_succ] at hi
        have := one hi
        simp only [List.filterMap_cons, id, List.count_cons_self]; omega
      | succ j =>
        simp only [List.getElem?_cons_succ] at hi hj
        have := ih hi hj (by omega)
        cases x with
        | none => simpa using this
        | some y =>
          simp only [List.filterMap_cons, id, List.count_cons]; omega

theorem once_inj {H : List AObj} {fresh : Bool} {ms : List PM} {vs : List AV} {bs : List BV} {U : Upd} (hA : ArgIs H fresh ms vs bs U) (ho : onceOnly U vs = true) {i j o : Nat} (hi : (handL ms vs)[i]? = some (some o)) (hj : (handL ms vs)[j]? = some (some o)) : i = j := by
  rcases Nat.decEq i j with h | h
  · have h1 := count_two hi hj h
    have h2 := (once_ok hA ho (mem_handN hi)).1
    unfold handN at h2; omega
  · exact h

section
variable {P : Program} {c c2 : Ctx} {w w' : World} {H H' : List AObj} {ρ ρ' : Rho} {o : Nat}

theorem hand_tame {fresh : Bool} {ms : List PM} {vs : List AV} {bs : List BV} {U : Upd} (hA : ArgIs H fresh ms vs bs U) (ho : onceOnly U vs = true) :
    Tame H (upd H U) ∧ (∀ o, o ∈ handN ms vs → ASt.obj (upd H U) o = .gone) ∧ (fresh = false → ∀ o, o ∈ datRefs ms vs → ASt.obj (upd H U) o = freezeObj (ASt.obj H o)) := by
  have hgone : ∀ o, o ∈ handN ms vs → ASt.obj (upd H U) o = .gone := by
    intro o hm
    have hlt : o < H.length := by
      obtain ⟨j, hj⟩ := List.mem_iff_getElem?.1 (List.mem_filterMap.1 hm).choose_spec.1
      have e := (List.mem_filterMap.1 hm).choose_spec.2
      simp only [id] at e
      rw [e] at hj
      obtain ⟨E, s, xs, h1, _⟩ := hA.row_ j o hj
      exact obj_lt (by rw [h1]; simp)
    refine upd_hit U H hlt (fun x hx hxo => ?_) ⟨_, hA.gone_ o hm, rfl⟩
    rcases hA.upd_ x hx with ⟨h1, _⟩ | ⟨_, _, h3⟩
    · exact h1
    · rw [hxo] at h3
      exact absurd h3 (once_ok hA ho hm).2
  have hfrz : fresh = false → ∀ (o : Nat), o ∈ datRefs ms vs → ASt.obj (upd H U) o = freezeObj (ASt.obj H o) := by
    intro hf o hd
    rcases Nat.lt_or_ge o H.length with hlt | hge
    · refine upd_hit U H hlt (fun x hx hxo => ?_) ⟨_, (hA.frz hf o hd).1, rfl⟩
      rcases hA.upd_ x hx with ⟨_, h2⟩ | ⟨_, h2, _⟩
      · rw [hxo] at h2
        exact absurd hd (once_ok hA ho h2).2
      · rw [← hxo]; exact h2
    · rw [obj_of_ge (by rw [upd_len]; exact hge), obj_of_ge hge]; rfl
  refine ⟨fun o => ?_, hgone, hfrz⟩
  by_cases hm : o ∈ handN ms vs
  · refine .inr (.inr ⟨hgone o hm, ?_⟩)
    obtain ⟨j, hj⟩ := List.mem_iff_getElem?.1 (List.mem_filterMap.1 hm).choose_spec.1
    have e := (List.mem_filterMap.1 hm).choose_spec.2
    simp only [id] at e
    rw [e] at hj
    obtain ⟨E, s, xs, h1, _⟩ := hA.row_ j o hj
    rw [h1]; simp
  · by_cases hd : ∃ x, x ∈ U ∧ x.1 = o
    · obtain ⟨x, hx, rfl⟩ := hd
      rcases hA.upd_ x hx with ⟨_, h2⟩ | ⟨h1, _, h3⟩
      · exact absurd h2 hm
      · exact .inr (.inl (hfrz h1 _ h3))
    · exact .inl (upd_other U H fun x hx e => hd ⟨x, hx, e⟩)

theorem SlR.move {o o' off : Nat} {len : Option Nat} {cs : List Value} (h1 : ASt.obj H' o' = ASt.obj H o) (h2 : ρ' o' = ρ o) (h : SlR H ρ o off len cs) : SlR H' ρ' o' off len cs := by
  unfold SlR at h ⊢
  rw [h1, h2]; exact h

theorem toDat_stands : ∀ (v : AV) (s : Sch) {b : Bool} {x : s.T}, toDat b H s v = some x → v.stands = true ∧ v.agg = s.agg := by
  intro v
  induction v with
  | dat t y =>
    intro s b x h
    rw [toDat] at h
    split at h
    · rename_i e; subst e; exact ⟨rfl, rfl⟩
    · cases h
  | pr u v ihu ihv =>
    intro s b x h
    cases s <;> simp only [toDat, reduceCtorEq] at h
    split at h
    · rename_i y z h1 h2
      exact ⟨by simp [AV.stands, (ihu _ h1).1, (ihv _ h2).1], rfl⟩
    · cases h
  | slx t ys => intro s b x h; cases s <;> simp_all [toDat, AV.stands, AV.agg, Sch.agg]
  | nils => intro s b x h; cases s <;> simp_all [toDat, AV.stands, AV.agg, Sch.agg]
  | emp => intro s b x h; cases s <;> simp_all [toDat, AV.stands, AV.agg, Sch.agg]
  | row o => intro s b x h; cases s <;> simp_all [toDat, AV.stands, AV.agg, Sch.agg]
  | sl o i n => intro s b x h; cases s <;> simp_all [toDat, AV.stands, AV.agg, Sch.agg]
  | un => intro s b x h; cases s <;> simp_all [toDat, AV.stands, AV.agg, Sch.agg]
  | vptr t y => intro s b x h; cases s <;> simp [toDat] at h
  | ptr o p => intro s b x h; cases s <;> simp [toDat] at h
  | fn f cp ih => intro s b x h; cases s <;> simp [toDat] at h
  | nilfn => intro s b x h; cases s <;> simp [toDat] at h
  | tup a ih => intro s b x h; cases s <;> simp [toDat] at h
  | dead => intro s b x h; cases s <;> simp [toDat] at h

/-- A value as plain data. -/
theorem toDat_rv (h : StOk c w H ρ) {b : Bool} {v : AV} {s : Sch} {x : s.T} {val : Value} {A' : Nat → Prop} (hv : RV w (Avoid c.X H ρ) H ρ v val) (hx : toDat b H s v = some x) (hL : Lets c H ρ A' v.refs) : RV w A' H' ρ' (.dat s x) val := by
  obtain ⟨hs, hag⟩ := toDat_stands v s hx
  have hr := toDat_ok h b v s (RV.cells hs hv) hx hL
  cases ha : s.agg with
  | true =>
    have hva : v.agg = true := hag.trans ha
    have : ∃ cs : List Value, val = .agg cs.toArray := by
      unfold RV at hv
      split at hv
      · simp [AV.stands] at hs
      · unfold RV1 at hv
        split at hv
        · simp [AV.stands] at hs
        · exact hv.elim
        · rw [if_pos hva] at hv
          obtain ⟨cs, e, _⟩ := hv; exact ⟨cs, e⟩
    obtain ⟨cs, rfl⟩ := this
    have e : (Value.agg cs.toArray).cells.toList = cs := by simp [Value.cells]
    rw [e] at hr
    exact RV.agg_ ha hr
  | false =>
    have hva : v.agg = false := hag.trans ha
    have ho := RV.to_one hs hva hv
    have hone := RX.oneCell v ho val (by simp)
    have e : val.cells = #[val] := by cases val <;> first | rfl | simp [Value.oneCell'] at hone
    rw [e] at hr
    exact RV.one ha hr

theorem args_rv (h : StOk c w H ρ) {fresh : Bool} {A' : Nat → Prop} : ∀ (ms : List PM) (vs : List AV) {bs : List BV} {U : Upd} {us : List Value} (n : Nat), toArgs fresh H ms vs = some (bs, U) → AllRV w (Avoid c.X H ρ) H ρ vs us →
    (∀ j o, (handL ms vs)[j]? = some (some o) → ASt.obj H' (n + j) = ASt.obj H o ∧ ρ' (n + j) = ρ o) → (∀ j, (handL ms vs)[j]? = some none → ρ' (n + j) = none) → (∀ j r, (rowsB bs)[j]? = some r → ASt.obj H' (n + j) = r) →
    Lets c H ρ A' (datRefs ms vs) → AllRV w A' H' ρ' (avsB bs n) us
  | [], [], bs, U, us, n, ha, hv, _, _, _, _ => by
    simp only [toArgs, Option.some.injEq, Prod.mk.injEq] at ha
    obtain ⟨rfl, rfl⟩ := ha
    exact hv
  | [], _ :: _, bs, U, us, n, ha, _, _, _, _, _ => by simp [toArgs] at ha
  | _ :: _, [], bs, U, us, n, ha, _, _, _, _, _ => by simp [toArgs] at ha
  | m :: ms, v :: vs, bs, U, us, n, ha, hv, h1, h2, h3, hL => by
    simp only [toArgs] at ha
    obtain ⟨u, r, rfl, hu, hr⟩ := hv
    split at ha
    · rename_i b U1 bs' V e1 e2
      simp only [Option.some.injEq, Prod.mk.injEq] at ha
      obtain ⟨rfl, rfl⟩ := ha
      cases m with
      | d s =>
        rw [toArg] at e1
        cases hd : toDat fresh H s v with
        | none => rw [hd] at e1; cases e1
        | some x =>
          rw [hd] at e1; cases e1
          exact ⟨u, r, rfl, toDat_rv h hu hd (hL.mono fun o ho => List.mem_append_left _ ho), args_rv h ms vs n e2 hr h1 h2 h3 (hL.mono fun o ho => List.mem_append_right _ ho)⟩
      | o E s =>
       cases v with
       | nils =>
        rw [toArg] at e1
        cases e1
        refine ⟨u, r, rfl, ?_, args_rv h ms vs (n + 1) e2 hr (fun j o hj => ?_) (fun j hj => ?_) (fun j x hj => ?_) hL⟩
        · have hval : u = .slice none 0 0 := by
            have : [u] = [Value.slice none 0 0] := hu
            simpa using this
          subst hval
          exact rv_row_none (h3 0 _ rfl) (h2 0 rfl) none
        · have := h1 (j + 1) o (by simpa [handL] using hj)
          rwa [show n + (j + 1) = n + 1 + j by omega] at this
        · have := h2 (j + 1) (by simpa [handL] using hj)
          rwa [show n + (j + 1) = n + 1 + j by omega] at this
        · have := h3 (j + 1) x (by simpa [rowsB] using hj)
          rwa [show n + (j + 1) = n + 1 + j by omega] at this
       | row o =>
        rw [toArg] at e1
        split at e1
        · rename_i E' s' xs hob
          split at e1
          · rename_i hs
            obtain ⟨rfl, rfl⟩ := hs
            cases e1
            refine ⟨u, r, rfl, ?_, args_rv h ms vs (n + 1) e2 hr (fun j o hj => ?_) (fun j hj => ?_) (fun j x hj => ?_) hL⟩
            · obtain ⟨g1, g2⟩ := h1 0 o rfl
              exact SlR.move g1 g2 (hu : SlR H ρ o 0 none [u])
            · have := h1 (j + 1) o (by simpa [handL] using hj)
              rwa [show n + (j + 1) = n + 1 + j by omega] at this
            · have := h2 (j + 1) (by simpa [handL] using hj)
              rwa [show n + (j + 1) = n + 1 + j by omega] at this
            · have := h3 (j + 1) x (by simpa [rowsB] using hj)
              rwa [show n + (j + 1) = n + 1 + j by omega] at this
          · cases e1
        · cases e1
       | _ => simp [toArg] at e1
      | f =>
       cases v with
       | fn g cp =>
        cases cp with
        | un =>
          rw [toArg] at e1
          cases e1
          exact ⟨u, r, rfl, hu, args_rv h ms vs n e2 hr h1 h2 h3 hL⟩
        | _ => simp [toArg] at e1
       | _ => simp [toArg] at e1
    · cases ha
end
end Go.AI
