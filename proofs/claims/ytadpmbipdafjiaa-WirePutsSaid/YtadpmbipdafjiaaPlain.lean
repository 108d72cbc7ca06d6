/- Values as plain data; objects frozen; what is built. -/
import Derived.Test.YtadpmbipdafjiaaHeap
namespace Go.AI
open Go Go.RowKit

section
variable {P : Program} {Γ : Gam} {c : Ctx} {w : World} {H H' : List AObj} {ρ : Rho} {o : Nat}

/-- A set of blocks that holds fewer than are avoided, and none behind some objects. -/
structure Lets (c : Ctx) (H : List AObj) (ρ : Rho) (A' : Nat → Prop) (l : List Nat) : Prop where
  sub : ∀ b, A' b → Avoid c.X H ρ b
  off : ∀ o, o ∈ l → ∀ g C, (ASt.obj H o).live = true → ρ o = some (g, C) → ¬ A' g

theorem slR_rep (h : StOk c w H ρ) {A' : Nat → Prop} {off : Nat} {len : Option Nat} {val : Value} {e : Elems} (hv : SlR H ρ o off len [val]) (he : (ASt.obj H o).elems = some e) (hL : Lets c H ρ A' [o]) :
    RepC w A' (.slc e.s) ((e.xs.drop off).take (len.getD e.xs.length)) [val] := by
  obtain ⟨_, hv⟩ := hv
  simp only [he] at hv
  obtain ⟨a, cap, hval, h1, h2, h3, h4⟩ := hv
  generalize len.getD e.xs.length = n at *
  have hlen : ((e.xs.drop off).take n).length = n := by simp; omega
  have hl : (ASt.obj H o).live = true := by cases hob : ASt.obj H o <;> simp_all [AObj.elems, AObj.live]
  refine ⟨a, cap, by rw [hlen]; exact hval, by rw [hlen]; exact h2, h3, ?_⟩
  by_cases hn : n = 0
  · left; simp [hn]
  right
  rcases h.elems he with ⟨hr, hx⟩ | ⟨g, C, E, cur, hr, _, hb, _, _, _, hLr⟩
  · rw [hr] at h4; simp only at h4; omega
  · rw [hr] at h4
    simp only at h4
    obtain ⟨h5, h6⟩ := h4
    rcases h6 with h6 | h6
    · omega
    refine ⟨_, _, h6, hb.lt, hL.off o (List.mem_singleton.2 rfl) g C hl hr,
      RepL.mono (fun x c => RepC.keeps (Keeps.refl _ _) (fun b _ hb => hL.sub b hb) e.s) (RepL.take (fun x c => RepC.length e.s) (RepL.drop (fun x c => RepC.length e.s) hLr off) n), ?_⟩
    have := CellsAt.of_blk hb (off * e.s.cells) (n * e.s.cells)
    have e1 : ((cur.toList.take (e.xs.length * e.s.cells)).drop (off * e.s.cells)).take (n * e.s.cells) = (cur.toList.drop (off * e.s.cells)).take (n * e.s.cells) := by
      rw [List.drop_take, List.take_take]
      congr 1
      have : (off + n) * e.s.cells ≤ e.xs.length * e.s.cells := Nat.mul_le_mul_right _ h1
      rw [Nat.add_mul] at this
      omega
    rw [e1]; exact this

theorem elemsAs_row {s : Sch} {xs : List s.T} {v : AV} (hv : (∃ o, v = .row o) ∨ ∃ o i n, v = .sl o i n) (h : elemsAs H s v = some xs) : ∃ e, elemsOf H v = some e ∧ ∃ hs : e.s = s, xs = castT (s := .slc e.s) (t := .slc s) (by rw [hs]) e.xs := by
  unfold elemsAs at h
  rcases hv with ⟨o, rfl⟩ | ⟨o, i, n, rfl⟩
  all_goals
    simp only at h
    split at h
    · rename_i e he
      split at h
      · rename_i hs
        simp only [Option.some.injEq] at h
        exact ⟨e, he, hs, h.symm⟩
      · cases h
    · cases h

theorem Lets.mono {A' : Nat → Prop} {l l' : List Nat} (h : Lets c H ρ A' l) (hl : ∀ o, o ∈ l' → o ∈ l) : Lets c H ρ A' l' := ⟨h.sub, fun o ho => h.off o (hl o ho)⟩

theorem toDat_ok (h : StOk c w H ρ) (b : Bool) : ∀ (v : AV) (s : Sch) {x : s.T} {cs : List Value} {A' : Nat → Prop}, RX w (Avoid c.X H ρ) H ρ v true cs → toDat b H s v = some x → Lets c H ρ A' v.refs → RepC w A' s x cs := by
  intro v
  induction v with
  | dat t y =>
    intro s x cs A' hr hx hL
    rw [toDat] at hx
    split at hx
    · rename_i hts; subst hts; simp only [castT, Option.some.injEq] at hx; subst hx
      exact RepC.keeps (Keeps.refl _ _) (fun b _ hb => hL.sub b hb) _ hr
    · cases hx
  | slx t ys =>
    intro s x cs A' hr hx hL
    cases s <;> simp only [toDat, reduceCtorEq] at hx
    rename_i s
    split at hx
    · rename_i hts; subst hts; simp only [castT, Option.some.injEq] at hx; subst hx
      obtain ⟨a, _, hr⟩ := (hr : ∃ a, cs = [Value.slice a ys.length ys.length] ∧ RepC w (Avoid c.X H ρ) (.slc t) ys cs)
      exact RepC.keeps (Keeps.refl _ _) (fun b _ hb => hL.sub b hb) (.slc t) hr
    · cases hx
  | nils =>
    intro s x cs A' hr hx hL
    cases s <;> simp only [toDat, reduceCtorEq, Option.some.injEq] at hx
    subst hx
    exact ⟨none, 0, hr, Nat.le_refl _, Nat.zero_le _, .inl rfl⟩
  | emp =>
    intro s x cs A' hr hx hL
    cases s <;> simp only [toDat, reduceCtorEq, Option.some.injEq] at hx
    subst hx
    obtain ⟨a, hr⟩ := (hr : ∃ a, cs = [Value.slice a 0 0])
    exact ⟨a, 0, hr, Nat.le_refl _, Nat.zero_le _, .inl rfl⟩
  | row o =>
    intro s x cs A' hr hx hL
    cases s <;> simp only [toDat, reduceCtorEq] at hx
    rename_i s
    split at hx
    · obtain ⟨e, he, hs, rfl⟩ := elemsAs_row (.inl ⟨o, rfl⟩) hx
      have hlen := RX.length _ hr
      match cs, hlen with
      | [val], _ =>
        simp only [elemsOf] at he
        have := slR_rep h (hr : SlR H ρ o 0 none [val]) he (hL.mono (by simp [AV.refs]))
        obtain ⟨es, exs⟩ := e
        simp only at hs
        subst hs
        simpa [castT] using this
    · cases hx
  | sl o i n =>
    intro s x cs A' hr hx hL
    cases s <;> simp only [toDat, reduceCtorEq] at hx
    rename_i s
    split at hx
    · obtain ⟨e, he, hs, rfl⟩ := elemsAs_row (.inr ⟨o, i, n, rfl⟩) hx
      have hlen := RX.length _ hr
      match cs, hlen with
      | [val], _ =>
        simp only [elemsOf] at he
        cases hob : (ASt.obj H o).elems with
        | none => simp [hob] at he
        | some e' =>
          simp only [hob, Option.some.injEq] at he
          subst he
          have := slR_rep h (hr : SlR H ρ o i (some n) [val]) hob (hL.mono (by simp [AV.refs]))
          simp only at hs
          subst hs
          simpa [castT] using this
    · cases hx
  | pr u v ihu ihv =>
    intro s x cs A' hr hx hL
    cases s <;> simp only [toDat, reduceCtorEq] at hx
    rename_i a b'
    split at hx
    · rename_i y z hy hz
      simp only [Option.some.injEq] at hx
      subst hx
      obtain ⟨c1, r, rfl, h1, h2⟩ := hr
      exact ⟨c1, r, rfl, ihu a h1 hy (hL.mono fun o ho => by simp [AV.refs, ho]), ihv b' h2 hz (hL.mono fun o ho => by simp [AV.refs, ho])⟩
    · cases hx
  | un =>
    intro s x cs A' hr hx hL
    cases s <;> simp only [toDat, reduceCtorEq] at hx
    exact hr
  | vptr t y => intro s x cs A' hr hx hL; cases s <;> simp [toDat] at hx
  | ptr o p => intro s x cs A' hr hx hL; cases s <;> simp [toDat] at hx
  | fn f cp ih => intro s x cs A' hr hx hL; cases s <;> simp [toDat] at hx
  | nilfn => intro s x cs A' hr hx hL; cases s <;> simp [toDat] at hx
  | tup a ih => intro s x cs A' hr hx hL; exact hr.elim
  | dead => intro s x cs A' hr hx hL; exact hr.elim

theorem freeze_idem (ob : AObj) : freezeObj (freezeObj ob) = freezeObj ob := by cases ob <;> rfl

/-- Objects frozen, one after another. -/
theorem Tr.freezes (h0 : StOk c w H ρ) : ∀ (l : List Nat) (H1 : List AObj), StOk c w H1 ρ → (∀ o, freezeObj (ASt.obj H1 o) = freezeObj (ASt.obj H o)) →
    Tr c w H1 ρ w (upd H1 (l.map fun o => (o, freezeObj (ASt.obj H o)))) ρ ∧
    (∀ o, freezeObj (ASt.obj (upd H1 (l.map fun o => (o, freezeObj (ASt.obj H o)))) o) = freezeObj (ASt.obj H o)) ∧
    (∀ o, o ∉ l → ASt.obj (upd H1 (l.map fun o => (o, freezeObj (ASt.obj H o)))) o = ASt.obj H1 o) ∧
    (∀ o, (o ∈ l ∨ ASt.obj H1 o = freezeObj (ASt.obj H o)) → ASt.obj (upd H1 (l.map fun o => (o, freezeObj (ASt.obj H o)))) o = freezeObj (ASt.obj H o)) ∧
    (upd H1 (l.map fun o => (o, freezeObj (ASt.obj H o)))).length = H1.length
  | [], H1, h1, hq => ⟨Tr.refl h1, hq, fun _ _ => rfl, fun o ho => by rcases ho with ho | ho; · cases ho
                                                                      · exact ho, rfl⟩
  | n :: l, H1, h1, hq => by
    have T := Tr.freeze h1 n
    have hs : H1.set n (freezeObj (ASt.obj H1 n)) = H1.set n (freezeObj (ASt.obj H n)) := by rw [hq]
    rw [hs] at T
    have hq' : ∀ o, freezeObj (ASt.obj (H1.set n (freezeObj (ASt.obj H n))) o) = freezeObj (ASt.obj H o) := by
      intro o
      by_cases ho : o = n
      · subst ho
        rcases Nat.lt_or_ge o H1.length with hlt | hge
        · rw [obj_set_same hlt, freeze_idem]
        · rw [List.set_eq_of_length_le hge]; exact hq o
      · rw [obj_set_other (Ne.symm ho)]; exact hq o
    obtain ⟨a1, a2, a3, a4, a5⟩ := Tr.freezes h0 l _ T.ok hq'
    refine ⟨T.trans a1, a2, fun o ho => ?_, fun o ho => ?_, by simpa [upd] using a5⟩
    · simp only [List.mem_cons, not_or] at ho
      rw [← obj_set_other (H := H1) (Ne.symm ho.1) (freezeObj (ASt.obj H n))]
      exact a3 o ho.2
    · refine a4 o ?_
      by_cases hon : o = n
      · subst hon
        right
        rcases Nat.lt_or_ge o H1.length with hlt | hge
        · exact obj_set_same hlt _
        · have e1 : ASt.obj H1 o = .free := obj_of_ge hge
          have e2 := hq o
          rw [e1] at e2
          rw [List.set_eq_of_length_le hge, e1, ← e2]; rfl
      · rw [obj_set_other (Ne.symm hon)]
        rcases ho with ho | ho
        · simp only [List.mem_cons] at ho
          rcases ho with ho | ho
          · exact absurd ho hon
          · exact .inl ho
        · exact .inr ho

/-- Behind frozen objects plain data may lie. -/
theorem lets_frozen (h : StOk c w H ρ) {l : List Nat} (hrow : ∀ o, o ∈ l → ∀ v, ASt.obj H o ≠ .box v) {H1 : List AObj} (hT : Tr c w H ρ w H1 ρ)
    (hf : ∀ o, o ∈ l → ASt.obj H1 o = freezeObj (ASt.obj H o)) (hA : ∀ b, Avoid c.X H1 ρ b → Avoid c.X H ρ b) : Lets c H ρ (Avoid c.X H1 ρ) l := by
  refine ⟨hA, fun o ho g C hl hr => ?_⟩
  rintro (hx | ⟨o', C', hm, hr'⟩)
  · exact (h.lt hl hr).2.notX hx
  · have hl1 : (ASt.obj H1 o).live = true := by
      rw [hf o ho]
      cases hob : ASt.obj H o <;> simp_all [AObj.live, freezeObj]
    have := hT.ok.inj o o' g C C' hl1 (AObj.mut_live hm) hr hr'
    subst this
    rw [hf o ho] at hm
    cases hob : ASt.obj H o with
    | box v => exact hrow o ho v hob
    | row E s xs fz => rw [hob] at hm; simp [freezeObj, AObj.mut] at hm
    | gone => rw [hob] at hm; simp [freezeObj, AObj.mut] at hm
    | free => rw [hob] at hm; simp [freezeObj, AObj.mut] at hm

/-- What is read as plain data for good has no boxes behind it. -/
theorem toDat_rows : ∀ (v : AV) (s : Sch) {x : s.T}, toDat false H s v = some x → ∀ o, o ∈ v.refs → ∀ u, ASt.obj H o ≠ .box u := by
  intro v
  induction v with
  | row o =>
    intro s x hx
    cases s <;> simp only [toDat, reduceCtorEq] at hx
    split at hx
    · rename_i hp
      intro o' ho' u hu
      simp only [AV.refs, List.mem_singleton] at ho'
      subst ho'
      rw [hu] at hp; simp [AObj.plain] at hp
    · cases hx
  | sl o i n =>
    intro s x hx
    cases s <;> simp only [toDat, reduceCtorEq] at hx
    split at hx
    · rename_i hp
      intro o' ho' u hu
      simp only [AV.refs, List.mem_singleton] at ho'
      subst ho'
      rw [hu] at hp; simp [AObj.plain] at hp
    · cases hx
  | pr a b iha ihb =>
    intro s x hx
    cases s <;> simp only [toDat, reduceCtorEq] at hx
    split at hx
    · rename_i y z hy hz
      intro o ho
      simp only [AV.refs, List.mem_append] at ho
      rcases ho with ho | ho
      · exact iha _ hy o ho
      · exact ihb _ hz o ho
    · cases hx
  | fn f cp ih => intro s x hx; cases s <;> simp [toDat] at hx
  | tup a ih => intro s x hx; cases s <;> simp [toDat] at hx
  | ptr o p => intro s x hx; cases s <;> simp [toDat] at hx
  | _ => intro s x _ o ho; simp [AV.refs] at ho

theorem avoid_freezes {l : List Nat} {H1 : List AObj} (hold : ∀ o, o ∉ l → ASt.obj H1 o = ASt.obj H o) (hf : ∀ o, o ∈ l → ASt.obj H1 o = freezeObj (ASt.obj H o)) :
    ∀ b, Avoid c.X H1 ρ b → Avoid c.X H ρ b := by
  rintro b (hx | ⟨o, C, hm, hr⟩)
  · exact .inl hx
  · refine .inr ⟨o, C, ?_, hr⟩
    by_cases ho : o ∈ l
    · rw [hf o ho] at hm
      cases hob : ASt.obj H o <;> simp_all [AObj.mut, freezeObj]
    · rw [← hold o ho]; exact hm

theorem asPlain_ok (h : StOk c w H ρ) {s : Sch} {v : AV} {y : s.T} {U : Upd} {cs : List Value} (hv : RX w (Avoid c.X H ρ) H ρ v true cs) (ha : asPlain H s v = some (y, U)) :
    U = freezes H v ∧ Tr c w H ρ w (upd H U) ρ ∧ RepC w (Avoid c.X (upd H U) ρ) s y cs ∧ (∀ o, o ∉ v.refs → ASt.obj (upd H U) o = ASt.obj H o) := by
  unfold asPlain at ha
  cases hx : toDat false H s v with
  | none => simp [hx] at ha
  | some x =>
    simp only [hx, Option.map_some, Option.some.injEq, Prod.mk.injEq] at ha
    obtain ⟨rfl, rfl⟩ := ha
    obtain ⟨a1, _, a3, a4, _⟩ := Tr.freezes h v.refs H h (fun _ => rfl)
    refine ⟨rfl, a1, ?_, a3⟩
    exact toDat_ok h false v s hv hx (lets_frozen h (toDat_rows v s hx) a1 (fun o ho => a4 o (.inl ho)) (avoid_freezes a3 (fun o ho => a4 o (.inl ho))))
end
end Go.AI
