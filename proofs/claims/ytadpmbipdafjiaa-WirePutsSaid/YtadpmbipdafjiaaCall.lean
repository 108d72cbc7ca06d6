/- Calls by contract. -/
import Derived.Test.YtadpmbipdafjiaaAop
namespace Go.AI
open Go Go.RowKit

def rowB : BV → Option AObj
  | .o E s xs => some (.row E s xs false)
  | _ => none
/-- The rows among boundary values, and the values themselves, rows from a number on. -/
def rowsB : List BV → List AObj
  | [] => []
  | .d _ _ :: bs => rowsB bs
  | .o E s xs :: bs => .row E s xs false :: rowsB bs
  | .f _ :: bs => rowsB bs
def avsB : List BV → Nat → List AV
  | [], _ => []
  | .d s x :: bs, n => .dat s x :: avsB bs n
  | .o _ _ _ :: bs, n => .row n :: avsB bs (n + 1)
  | .f g :: bs, n => .fn g .un :: avsB bs n

theorem ofArgs_eq : ∀ (bs : List BV) (H : List AObj), ofArgs bs H = (avsB bs H.length, H ++ rowsB bs)
  | [], H => by simp [ofArgs, avsB, rowsB]
  | .d s x :: bs, H => by simp [ofArgs, avsB, rowsB, ofArgs_eq bs H]
  | .o E s xs :: bs, H => by simp [ofArgs, avsB, rowsB, ofArgs_eq bs (H ++ [.row E s xs false])]
  | .f g :: bs, H => by simp [ofArgs, avsB, rowsB, ofArgs_eq bs H]

/-- Values side by side. -/
def AllRV (w : World) (A : Nat → Prop) (H : List AObj) (ρ : Rho) : List AV → List Value → Prop
  | [], us => us = []
  | v :: vs, us => ∃ u r, us = u :: r ∧ RV w A H ρ v u ∧ AllRV w A H ρ vs r

section
variable {w w' : World} {A A' : Nat → Prop} {H H' : List AObj} {ρ ρ' : Rho}
theorem AllRV.length : ∀ {vs : List AV} {us : List Value}, AllRV w A H ρ vs us → us.length = vs.length
  | [], _, h => by simp only [AllRV] at h; subst h; rfl
  | _ :: _, _, ⟨_, _, e, _, h⟩ => by subst e; simp [AllRV.length h]
theorem AllRV.mono (hm : ∀ v u, RV w A H ρ v u → RV w' A' H' ρ' v u) : ∀ {vs : List AV} {us : List Value}, AllRV w A H ρ vs us → AllRV w' A' H' ρ' vs us
  | [], _, h => h
  | _ :: _, _, ⟨u, r, e, h1, h2⟩ => ⟨u, r, e, hm _ _ h1, AllRV.mono hm h2⟩
theorem AllRV.append : ∀ {vs ws : List AV} {us xs : List Value}, AllRV w A H ρ vs us → AllRV w A H ρ ws xs → AllRV w A H ρ (vs ++ ws) (us ++ xs)
  | [], _, _, _, h, k => by simp only [AllRV] at h; subst h; exact k
  | _ :: _, _, _, _, ⟨u, r, e, h1, h2⟩, k => ⟨u, r ++ _, by simp [e], h1, AllRV.append h2 k⟩
theorem AllRV.of_map (f : Operand → AV) (g : Operand → Value) (h : ∀ x, RV w A H ρ (f x) (g x)) : ∀ l : List Operand, AllRV w A H ρ (l.map f) (l.map g)
  | [] => rfl
  | x :: l => ⟨_, _, rfl, h x, AllRV.of_map f g h l⟩
/-- A chain of values. -/
theorem AllRV.chain : ∀ {vs : List AV} {us : List Value}, (∀ v, v ∈ vs → v.isTup = false) → AllRV w A H ρ vs us → RX w A H ρ (vs.foldr .pr .un) false us
  | [], _, _, h => h
  | _ :: _, _, ht, ⟨u, r, e, h1, h2⟩ => ⟨u, r, e, h1.rv1 (ht _ List.mem_cons_self), AllRV.chain (fun v hv => ht v (List.mem_cons_of_mem _ hv)) h2⟩
theorem AllRV.unchain : ∀ {c : AV} {vs : List AV} {us : List Value}, unchain c = some vs → RX w A H ρ c false us → AllRV w A H ρ vs us
  | .un, vs, us, h, hr => by
    simp only [AI.unchain, Option.some.injEq] at h
    subst h; exact hr
  | .pr a b, vs, us, h, hr => by
    simp only [AI.unchain] at h
    cases hb : AI.unchain b with
    | none => rw [hb] at h; cases h
    | some l =>
      rw [hb] at h; cases h
      obtain ⟨u, r, rfl, h1, h2⟩ := hr
      exact ⟨u, r, rfl, h1.rv, AllRV.unchain hb h2⟩
  | .dat _ _, _, _, h, _ => by simp [AI.unchain] at h
  | .slx _ _, _, _, h, _ => by simp [AI.unchain] at h
  | .nils, _, _, h, _ => by simp [AI.unchain] at h
  | .emp, _, _, h, _ => by simp [AI.unchain] at h
  | .row _, _, _, h, _ => by simp [AI.unchain] at h
  | .sl _ _ _, _, _, h, _ => by simp [AI.unchain] at h
  | .vptr _ _, _, _, h, _ => by simp [AI.unchain] at h
  | .ptr _ _, _, _, h, _ => by simp [AI.unchain] at h
  | .fn _ _, _, _, h, _ => by simp [AI.unchain] at h
  | .nilfn, _, _, h, _ => by simp [AI.unchain] at h
  | .tup _, _, _, h, _ => by simp [AI.unchain] at h
  | .dead, _, _, h, _ => by simp [AI.unchain] at h
end

/-- What a function gives back: one value, or a tuple. -/
def IsPacked (us : List Value) (v : Value) : Prop :=
  match us with
  | [u] => v = u
  | us => v = .tuple us.toArray

theorem packed_rv {w : World} {A : Nat → Prop} {H : List AObj} {ρ : Rho} {vs : List AV} {us : List Value} {v : Value} (ht : ∀ v, v ∈ vs → v.isTup = false) (h : AllRV w A H ρ vs us) (hp : IsPacked us v) : RV w A H ρ (packed vs) v := by
  match vs, us, h, hp with
  | [], _, h, hp =>
    simp only [AllRV] at h; subst h
    exact ⟨[], hp, rfl⟩
  | [x], _, ⟨u, r, e, h1, h2⟩, hp =>
    subst e
    simp only [AllRV] at h2; subst h2
    have : v = u := hp
    subst this; exact h1
  | x :: y :: vs, _, ⟨u, r, e, h1, h2⟩, hp =>
    subst e
    obtain ⟨u2, r2, rfl, h3, h4⟩ := h2
    refine (⟨u :: u2 :: r2, hp, ?_⟩ : RV w A H ρ (.tup _) v)
    exact AllRV.chain ht ⟨u, _, rfl, h1, u2, r2, rfl, h3, h4⟩

structure FnOk (P : Program) (f : FuncId) : Prop where
  there : ∃ fn, P.funcs[f]? = some fn ∧ (fn.name == "runtime.NumGoroutine") = false ∧ fn.body.isNone = false

/-- What a function does, between boundary values. -/
def Contract (P : Program) (f : FuncId) (k : Orc) : Prop :=
  FnOk P f ∧ ∀ bs rs, k.fn bs = some (true, rs) → bs.map BV.mode = k.ps → ∀ (c : Ctx) (ρ : Rho) (vals : List Value), StOk c c.w0 (rowsB bs) ρ → AllRV c.w0 (Avoid c.X (rowsB bs) ρ) (rowsB bs) ρ (avsB bs 0) vals →
    ∀ R : Ending → World → Prop, (∀ v us w' ρ', StOk c w' (rowsB rs) ρ' → AllRV w' (Avoid c.X (rowsB rs) ρ') (rowsB rs) ρ' (avsB rs 0) us → IsPacked us v → R (.returned v) w') → Calls P f vals.toArray c.w0 R

theorem run_callFunc {P : Program} {f : FuncId} (h : FnOk P f) (args : Array Value) (w : World) : (callFunc f args).run P w = .ok (.enter f args) w := by
  obtain ⟨fn, h1, h2, h3⟩ := h.there
  unfold callFunc
  rw [Sem.run_bind]
  have hp : (program : Sem Program).run P w = .ok P w := rfl
  rw [hp]
  simp only [Result.andThen_ok, h1, h2, h3]
  rfl

section
variable {P : Program} {c : Ctx} {w w' : World} {H H' : List AObj} {ρ ρ' : Rho} {o : Nat}
/-- Objects frozen, or forgotten. -/
def Tame (H H1 : List AObj) : Prop := ∀ o, ASt.obj H1 o = ASt.obj H o ∨ ASt.obj H1 o = freezeObj (ASt.obj H o) ∨ (ASt.obj H1 o = .gone ∧ ASt.obj H o ≠ .free)

theorem freeze_live (ob : AObj) : (freezeObj ob).live = ob.live := by cases ob <;> rfl
theorem freeze_mut {ob : AObj} (h : (freezeObj ob).mut = true) : ob.mut = true := by cases ob <;> simp_all [freezeObj, AObj.mut]

theorem Tame.live {H H1 : List AObj} (h : Tame H H1) {o : Nat} (hl : (ASt.obj H1 o).live = true) : (ASt.obj H o).live = true ∧ (ASt.obj H1 o = ASt.obj H o ∨ ASt.obj H1 o = freezeObj (ASt.obj H o)) := by
  rcases h o with e | e | ⟨e, _⟩
  · exact ⟨by rw [← e]; exact hl, .inl e⟩
  · exact ⟨by rw [← freeze_live, ← e]; exact hl, .inr e⟩
  · rw [e] at hl; cases hl
theorem Tame.mut {H H1 : List AObj} (h : Tame H H1) {o : Nat} (hm : (ASt.obj H1 o).mut = true) : (ASt.obj H o).mut = true := by
  rcases h o with e | e | ⟨e, _⟩
  · rw [← e]; exact hm
  · exact freeze_mut (by rw [← e]; exact hm)
  · rw [e] at hm; cases hm

theorem Tame.avoid {H H1 : List AObj} (h : Tame H H1) {b : Nat} (ha : Avoid c.X H1 ρ b) : Avoid c.X H ρ b := by
  rcases ha with hx | ⟨o, C, hm, hr⟩
  · exact .inl hx
  · exact .inr ⟨o, C, h.mut hm, hr⟩

theorem Tame.compat {H H1 : List AObj} (h : Tame H H1) : Compat H ρ H1 ρ := fun o ho => by
  rcases h o with e | e | ⟨e, _⟩
  · rw [e]; exact Compat.refl H ρ o ho
  · rw [e]
    rcases (ASt.obj H o).cases3 with h3 | h3 | h3
    · exact absurd h3 ho
    · rw [h3]; exact .inl rfl
    · refine .inr ⟨?_, ?_, h3, by rw [freeze_live]; exact h3, rfl⟩ <;> (cases ASt.obj H o <;> rfl)
  · exact .inl e

theorem frozen_ok {A : Nat → Prop} {ob : AObj} (h : ObjOk c w A H ρ o ob) : ObjOk c w A H ρ o (freezeObj ob) := by cases ob <;> exact h

theorem Tr.tame (h : StOk c w H ρ) {H1 : List AObj} (ht : Tame H H1) : Tr c w H ρ w H1 ρ := by
  refine ⟨Keeps.refl _ _, fun b _ ha => ht.avoid ha, ht.compat, ⟨fun o => ?_, fun o o' g C C' h1 h2 => h.inj o o' g C C' (ht.live h1).1 (ht.live h2).1, h.fr, h.old⟩⟩
  have hob := (h.obj o).mono (Keeps.refl _ w) (fun b _ ha => ht.avoid (c := c) (ρ := ρ) ha) ht.compat rfl (fun _ _ _ _ => rfl)
  rcases ht o with e | e | ⟨e, _⟩
  · rw [e]; exact hob
  · rw [e]; exact frozen_ok hob
  · rw [e]; trivial

theorem upd_len : ∀ (U : Upd) (H : List AObj), (upd H U).length = H.length
  | [], _ => rfl
  | _ :: U, H => by
    show (upd (H.set _ _) U).length = _
    rw [upd_len U]; simp
theorem upd_append (H : List AObj) (U V : Upd) : upd H (U ++ V) = upd (upd H U) V := by simp [upd, List.foldl_append]
theorem upd_other : ∀ (U : Upd) (H : List AObj) {o : Nat}, (∀ x, x ∈ U → x.1 ≠ o) → ASt.obj (upd H U) o = ASt.obj H o
  | [], _, _, _ => rfl
  | x :: U, H, o, h => by
    show ASt.obj (upd (H.set x.1 x.2) U) o = _
    rw [upd_other U _ (fun y hy => h y (List.mem_cons_of_mem _ hy)), obj_set_other (h x List.mem_cons_self)]
theorem upd_hit : ∀ (U : Upd) (H : List AObj) {o : Nat} {ob : AObj}, o < H.length → (∀ x, x ∈ U → x.1 = o → x.2 = ob) → (∃ x, x ∈ U ∧ x.1 = o) → ASt.obj (upd H U) o = ob
  | [], _, _, _, _, _, h => by obtain ⟨_, h, _⟩ := h; cases h
  | x :: U, H, o, ob, hlt, h1, h2 => by
    show ASt.obj (upd (H.set x.1 x.2) U) o = _
    by_cases hex : ∃ y, y ∈ U ∧ y.1 = o
    · exact upd_hit U _ (by simpa using hlt) (fun y hy => h1 y (List.mem_cons_of_mem _ hy)) hex
    · rw [upd_other U _ (fun y hy e => hex ⟨y, hy, e⟩)]
      obtain ⟨y, hy, hyo⟩ := h2
      rcases List.mem_cons.1 hy with rfl | hy
      · subst hyo
        rw [obj_set_same hlt]
        exact h1 y List.mem_cons_self rfl
      · exact absurd ⟨y, hy, hyo⟩ hex
end
end Go.AI
