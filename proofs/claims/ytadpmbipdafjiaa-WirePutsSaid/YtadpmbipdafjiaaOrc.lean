/- Calls by contract are steps. -/
import Derived.Test.YtadpmbipdafjiaaHand
namespace Go.AI
open Go Go.RowKit

section
variable {P : Program} {c c2 : Ctx} {w w' : World} {H H1 H2 R : List AObj} {ρ ρ' : Rho} {o : Nat}

theorem rowsB_row : ∀ (bs : List BV) (j : Nat) {r : AObj}, (rowsB bs)[j]? = some r → ∃ E s xs, r = .row E s xs false
  | [], j, r, h => by simp [rowsB] at h
  | .d _ _ :: bs, j, r, h => rowsB_row bs j h
  | .f _ :: bs, j, r, h => rowsB_row bs j h
  | .o E s xs :: bs, j, r, h => by
    cases j with
    | zero => simp only [rowsB, List.getElem?_cons_zero, Option.some.injEq] at h; exact ⟨E, s, xs, h.symm⟩
    | succ j => exact rowsB_row bs j (by simpa [rowsB] using h)
theorem obj_get {j : Nat} {r : AObj} (h : R[j]? = some r) : ASt.obj R j = r := by simp [ASt.obj, List.getD, h]
theorem obj_rowsB (bs : List BV) (j : Nat) : (∃ E s xs, ASt.obj (rowsB bs) j = .row E s xs false ∧ (rowsB bs)[j]? = some (.row E s xs false)) ∨ (ASt.obj (rowsB bs) j = .free ∧ (rowsB bs).length ≤ j) := by
  rcases Nat.lt_or_ge j (rowsB bs).length with h | h
  · obtain ⟨E, s, xs, e⟩ := rowsB_row bs j (List.getElem?_eq_getElem h)
    refine .inl ⟨E, s, xs, ?_, ?_⟩
    · rw [obj_get (List.getElem?_eq_getElem h), e]
    · rw [List.getElem?_eq_getElem h, e]
  · exact .inr ⟨obj_of_ge h, h⟩

/-- The places of what is handed over. -/
def handR (l : List (Option Nat)) (ρ : Rho) : Rho := fun i => match l[i]? with
  | some (some o) => ρ o
  | _ => none

theorem handR_some {l : List (Option Nat)} {i : Nat} {p : Nat × Nat} (h : handR l ρ i = some p) : ∃ o, l[i]? = some (some o) ∧ ρ o = some p := by
  unfold handR at h
  split at h
  · rename_i o e; exact ⟨o, e, h⟩
  · cases h

/-- What is handed over makes the start of another run, or the end of this one. -/
theorem hand_core (h : StOk c w H ρ) {fresh : Bool} {ms : List PM} {vs : List AV} {bs : List BV} {U : Upd} {us : List Value} (ha : toArgs fresh H ms vs = some (bs, U)) (ho : onceOnly U vs = true) (hv : AllRV w (Avoid c.X H ρ) H ρ vs us)
    (hX : ∀ b, c2.X b → Avoid c.X H ρ b) (hdat : ∀ o, o ∈ datRefs ms vs → ∀ g C, (ASt.obj H o).live = true → ρ o = some (g, C) → ¬ c2.X g) (hown : ∀ o, o ∈ handN ms vs → ∀ g C, (ASt.obj H o).live = true → ρ o = some (g, C) → Own c2 g)
    (hfr : Fr c2 w) (hold : ∀ b, c2.X b → b < c2.w0.heap.size) :
    StOk c2 w (rowsB bs) (handR (handL ms vs) ρ) ∧ AllRV w (Avoid c2.X (rowsB bs) (handR (handL ms vs) ρ)) (rowsB bs) (handR (handL ms vs) ρ) (avsB bs 0) us := by
  have hA := toArgs_is ms vs ha
  have row : ∀ i p, handR (handL ms vs) ρ i = some p → ∃ o E s xs, (handL ms vs)[i]? = some (some o) ∧ ρ o = some p ∧ ASt.obj H o = .row E s xs false ∧ ASt.obj (rowsB bs) i = .row E s xs false := by
    intro i p hp
    obtain ⟨o, h1, h2⟩ := handR_some hp
    obtain ⟨E, s, xs, h3, h4⟩ := hA.row_ i o h1
    exact ⟨o, E, s, xs, h1, h2, h3, obj_get h4⟩
  have hAv : ∀ b, Avoid c2.X (rowsB bs) (handR (handL ms vs) ρ) b → Avoid c.X H ρ b := by
    rintro b (hx | ⟨i, C, _, hr⟩)
    · exact hX b hx
    · obtain ⟨o, E, s, xs, _, h2, h3, _⟩ := row i _ hr
      exact .inr ⟨o, C, by rw [h3]; rfl, h2⟩
  have hLets : Lets c H ρ (Avoid c2.X (rowsB bs) (handR (handL ms vs) ρ)) (datRefs ms vs) := by
    refine ⟨hAv, fun o hd g C hl hr => ?_⟩
    rintro (hx | ⟨i, C', _, hr'⟩)
    · exact hdat o hd g C hl hr hx
    · obtain ⟨o', E, s, xs, h1, h2, h3, _⟩ := row i _ hr'
      have := h.inj o o' g C C' hl (by rw [h3]; rfl) hr h2
      subst this
      exact (once_ok hA ho (mem_handN h1)).2 hd
  refine ⟨⟨fun i => ?_, fun i j g C C' hl hl' hr hr' => ?_, hfr, hold⟩, ?_⟩
  · rcases obj_rowsB bs i with ⟨E, s, xs, e, hi⟩ | ⟨e, _⟩
    · rw [e]
      have hlt : i < (handL ms vs).length := by rw [← hA.len]; exact (List.getElem?_eq_some_iff.1 hi).1
      cases hh : (handL ms vs)[i]? with
      | none => rw [List.getElem?_eq_none_iff] at hh; omega
      | some x =>
        cases x with
        | none =>
          obtain ⟨E', s', h1⟩ := hA.nil_ i hh
          rw [hi] at h1
          cases h1
          exact .inl ⟨by simp [handR, hh], rfl⟩
        | some o =>
          obtain ⟨E', s', xs', h1, h2⟩ := hA.row_ i o hh
          rw [hi] at h2
          cases h2
          have hob := h.obj o
          rw [h1] at hob
          have hρ : handR (handL ms vs) ρ i = ρ o := by simp [handR, hh]
          rcases hob with ⟨g1, g2⟩ | ⟨g, C, g1, _, cur, g3, g4, g5, g6, g7⟩
          · exact .inl ⟨hρ.trans g1, g2⟩
          · exact .inr ⟨g, C, hρ.trans g1, hown o (mem_handN hh) g C (by rw [h1]; rfl) g1, cur, g3, g4, g5, g6, RepL.mono (fun x c => RepC.keeps (Keeps.refl _ _) (fun b _ hb => hAv b hb) _) g7⟩
    · rw [e]; trivial
  · obtain ⟨o1, _, _, _, h1, h2, h3, _⟩ := row i _ hr
    obtain ⟨o2, _, _, _, k1, k2, k3, _⟩ := row j _ hr'
    have := h.inj o1 o2 g C C' (by rw [h3]; rfl) (by rw [k3]; rfl) h2 k2
    subst this
    exact once_inj hA ho h1 k1
  · refine args_rv h ms vs 0 ha hv (fun j o hj => ?_) (fun j hj => ?_) (fun j r hj => ?_) hLets
    · obtain ⟨E, s, xs, h1, h2⟩ := hA.row_ j o hj
      rw [Nat.zero_add, obj_get h2, h1]
      exact ⟨rfl, by simp [handR, hj]⟩
    · rw [Nat.zero_add]; simp [handR, hj]
    · rw [Nat.zero_add]; exact obj_get hj

def newR (nid n : Nat) (ρ ρ' : Rho) : Rho := fun o => if nid ≤ o ∧ o < nid + n then ρ' (o - nid) else ρ o
theorem newR_in {nid n j : Nat} (h : j < n) : newR nid n ρ ρ' (nid + j) = ρ' j := by
  unfold newR
  rw [if_pos ⟨by omega, by omega⟩]
  congr 1; omega
theorem newR_out {nid n o : Nat} (h : ¬ (nid ≤ o ∧ o < nid + n)) : newR nid n ρ ρ' o = ρ o := by simp [newR, h]

theorem RepC.flat {A A' : Nat → Prop} : ∀ (s : Sch) {x : s.T} {cs : List Value}, s.flat = true → RepC w A s x cs → RepC w' A' s x cs
  | .int k, _, _, _, h => h
  | .bool, _, _, _, h => h
  | .str, _, _, _, h => h
  | .slc s, _, _, hf, _ => by simp [Sch.flat] at hf
  | .arr n s, xs, cs, hf, h => ⟨h.1, RepL.mono (fun x c => RepC.flat s hf) h.2⟩
  | .pair a b, x, _, hf, h => by
    simp only [Sch.flat, Bool.and_eq_true] at hf
    obtain ⟨c, r, e, h1, h2⟩ := h
    exact ⟨c, r, e, RepC.flat a hf.1 h1, RepC.flat b hf.2 h2⟩
  | .unit, _, _, _, h => h
theorem RowOk.flat {A A' : Nat → Prop} {E : TypeId} {s : Sch} {xs : List s.T} {g C : Nat} (hf : s.flat = true) (h : RowOk w A E s xs g C) : RowOk w A' E s xs g C := by
  obtain ⟨cur, h1, h2, h3, h4, h5⟩ := h
  exact ⟨cur, h1, h2, h3, h4, RepL.mono (fun x c => RepC.flat s hf) h5⟩
theorem rows_flat : ∀ (rs : List BV), rs.all BV.flat = true → ∀ (j : Nat) {E : TypeId} {s : Sch} {xs : List s.T} {fz : Bool}, (rowsB rs)[j]? = some (.row E s xs fz) → s.flat = true
  | [], _, j, E, s, xs, fz, h => by simp [rowsB] at h
  | .d _ _ :: rs, hf, j, E, s, xs, fz, h => by simp only [List.all_cons, Bool.and_eq_true] at hf; exact rows_flat rs hf.2 j h
  | .f _ :: rs, hf, j, E, s, xs, fz, h => by simp only [List.all_cons, Bool.and_eq_true] at hf; exact rows_flat rs hf.2 j h
  | .o E' s' xs' :: rs, hf, j, E, s, xs, fz, h => by
    simp only [List.all_cons, Bool.and_eq_true] at hf
    cases j with
    | zero =>
      simp only [rowsB, List.getElem?_cons_zero, Option.some.injEq, AObj.row.injEq] at h
      obtain ⟨_, rfl, _⟩ := h
      exact hf.1
    | succ j => exact rows_flat rs hf.2 j (by simpa [rowsB] using h)

/-- A call has returned. -/
theorem Tr.called (h : StOk c w H ρ) (ht : Tame H H1) (hc2 : c2.w0 = w) (hS : ∀ g, g ∈ c2.S → Own c g ∧ Avoid c.X H ρ g ∧ ∀ o C, (ASt.obj H1 o).live = true → ρ o ≠ some (g, C)) {rs : List BV}
    (hX : rs.all BV.flat = true ∨ ∀ b, Avoid c.X H1 ρ b → c2.X b) (h2 : StOk c2 w' (rowsB rs) ρ') {nid : Nat} (hfree : ∀ j, j < (rowsB rs).length → ASt.obj H1 (nid + j) = .free)
    (hnew : ∀ j, j < (rowsB rs).length → ASt.obj H2 (nid + j) = ASt.obj (rowsB rs) j) (hoth : ∀ o, ¬ (nid ≤ o ∧ o < nid + (rowsB rs).length) → ASt.obj H2 o = ASt.obj H1 o) :
    Tr c w H ρ w' H2 (newR nid (rowsB rs).length ρ ρ') := by
  subst hc2
  generalize hn : (rowsB rs).length = n at *
  have isnew : ∀ o, (nid ≤ o ∧ o < nid + n) → ∃ j, j < n ∧ o = nid + j := fun o ho => ⟨o - nid, by omega, by omega⟩
  have ownB : ∀ j g C, j < n → ρ' j = some (g, C) → Own c2 g := by
    intro j g C hj hr
    have hob := h2.obj j
    rcases obj_rowsB rs j with ⟨E, s, xs, e, _⟩ | ⟨_, hge⟩
    · rw [e] at hob
      rcases hob with ⟨h1, _⟩ | ⟨g', C', h1, h3, _⟩
      · rw [hr] at h1; cases h1
      · rw [hr] at h1; cases h1; exact h3
    · omega
  have hk : Keeps (Avoid c.X H ρ) c2.w0 w' := ⟨h2.fr.size, fun b hb hA => h2.fr.block b hb (fun hs => hA (hS b hs).2.1)⟩
  have hav : ∀ b, b < c2.w0.heap.size → Avoid c.X H2 (newR nid n ρ ρ') b → Avoid c.X H ρ b := by
    intro b hb
    rintro (hx | ⟨o, C, hm, hr⟩)
    · exact .inl hx
    · by_cases ho : nid ≤ o ∧ o < nid + n
      · obtain ⟨j, hj, rfl⟩ := isnew o ho
        rw [newR_in hj] at hr
        rcases (ownB j b C hj hr).may with hs | hs
        · exact (hS b hs).2.1
        · omega
      · rw [newR_out ho] at hr
        rw [hoth o ho] at hm
        exact .inr ⟨o, C, ht.mut hm, hr⟩
  have hfreeH : ∀ o, ASt.obj H1 o = .free → ASt.obj H o = .free := by
    intro o e
    rcases ht o with e1 | e1 | ⟨e1, _⟩
    · rw [← e1]; exact e
    · rw [e] at e1
      cases hob : ASt.obj H o <;> rw [hob] at e1 <;> simp [freezeObj] at e1
    · rw [e] at e1; cases e1
  have hcomp : Compat H ρ H2 (newR nid n ρ ρ') := by
    intro o ho
    have hno : ¬ (nid ≤ o ∧ o < nid + n) := fun hin => by
      obtain ⟨j, hj, rfl⟩ := isnew o hin
      exact ho (hfreeH _ (hfree j hj))
    rw [newR_out hno, hoth o hno]
    exact ht.compat o ho
  have hAv2 : rs.all BV.flat = true ∨ ∀ b, Avoid c.X H2 (newR nid n ρ ρ') b → Avoid c2.X (rowsB rs) ρ' b := by
    rcases hX with hX | hX
    · exact .inl hX
    right
    rintro b (hx | ⟨o, C, hm, hr⟩)
    · exact .inl (hX b (.inl hx))
    · by_cases ho : nid ≤ o ∧ o < nid + n
      · obtain ⟨j, hj, rfl⟩ := isnew o ho
        rw [newR_in hj] at hr
        rw [hnew j hj] at hm
        exact .inr ⟨j, C, hm, hr⟩
      · rw [newR_out ho] at hr
        rw [hoth o ho] at hm
        exact .inl (hX b (.inr ⟨o, C, hm, hr⟩))
  refine ⟨hk, hav, hcomp, ⟨fun o => ?_, fun o o' g C C' hl hl' hr hr' => ?_, ⟨h2.fr.os.trans h.fr.os, h2.fr.tape.trans h.fr.tape, h2.fr.output.trans h.fr.output, Nat.le_trans h.fr.size h2.fr.size, fun b hb hS' => ?_⟩, h.old⟩⟩
  · by_cases ho : nid ≤ o ∧ o < nid + n
    · obtain ⟨j, hj, rfl⟩ := isnew o ho
      rw [hnew j hj]
      have hob := h2.obj j
      rcases obj_rowsB rs j with ⟨E, s, xs, e, hej⟩ | ⟨_, hge⟩
      · rw [e] at hob ⊢
        rcases hob with ⟨h1, h3⟩ | ⟨g, C, h1, h3, h4⟩
        · exact .inl ⟨by rw [newR_in hj]; exact h1, h3⟩
        · refine .inr ⟨g, C, by rw [newR_in hj]; exact h1, ⟨?_, ?_⟩, ?_⟩
          · rcases h3.may with hs | hs
            · exact (hS g hs).1.may
            · exact .inr (Nat.le_trans h.fr.size hs)
          · rcases h3.may with hs | hs
            · exact (hS g hs).1.notX
            · intro hx
              have := h.old g hx
              have := h.fr.size
              omega
          · rcases hAv2 with hz | hAv2
            · exact RowOk.flat (rows_flat rs hz j hej) h4
            · exact h4.mono (Keeps.refl _ _) (fun b _ hb => hAv2 b hb) rfl
      · omega
    · rw [hoth o ho]
      rcases (ASt.obj H1 o).cases3 with e | e | e
      · rw [e]; trivial
      · rw [e]; trivial
      · obtain ⟨hl, hor⟩ := ht.live e
        have hob := (h.obj o).mono hk hav hcomp (newR_out ho) (fun _ g C hr => h2.fr.block g (h.lt hl hr).1 (fun hs => (hS g hs).2.2 o C e hr))
        rcases hor with e1 | e1
        · rw [e1]; exact hob
        · rw [e1]; exact frozen_ok hob
  · have mixed : ∀ o o' g C C', (nid ≤ o ∧ o < nid + n) → ¬ (nid ≤ o' ∧ o' < nid + n) → (ASt.obj H2 o').live = true → newR nid n ρ ρ' o = some (g, C) → newR nid n ρ ρ' o' = some (g, C') → False := by
      intro o o' g C C' ho ho' hl' hr hr'
      obtain ⟨j, hj, rfl⟩ := isnew o ho
      rw [newR_in hj] at hr
      rw [newR_out ho'] at hr'
      rw [hoth o' ho'] at hl'
      rcases (ownB j g C hj hr).may with hs | hs
      · exact (hS g hs).2.2 o' C' hl' hr'
      · have := (h.lt (ht.live hl').1 hr').1; omega
    by_cases ho : nid ≤ o ∧ o < nid + n <;> by_cases ho' : nid ≤ o' ∧ o' < nid + n
    · obtain ⟨j, hj, rfl⟩ := isnew o ho
      obtain ⟨j', hj', rfl⟩ := isnew o' ho'
      rw [newR_in hj] at hr
      rw [newR_in hj'] at hr'
      rw [hnew j hj] at hl
      rw [hnew j' hj'] at hl'
      have := h2.inj j j' g C C' hl hl' hr hr'
      omega
    · exact (mixed o o' g C C' ho ho' hl' hr hr').elim
    · exact (mixed o' o g C' C ho' ho hl hr' hr).elim
    · rw [newR_out ho] at hr
      rw [newR_out ho'] at hr'
      rw [hoth o ho] at hl
      rw [hoth o' ho'] at hl'
      exact h.inj o o' g C C' (ht.live hl).1 (ht.live hl').1 hr hr'
  · have h1 : b ∉ c2.S := fun hs => by
      rcases (hS b hs).1.may with h3 | h3
      · exact hS' h3
      · omega
    exact (h2.fr.block b (Nat.lt_of_lt_of_le hb h.fr.size) h1).trans (h.fr.block b hb hS')
end
end Go.AI
