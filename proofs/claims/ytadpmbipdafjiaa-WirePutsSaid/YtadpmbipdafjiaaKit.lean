/- Books out of lists, and contracts out of runs with shortcuts. -/
import Derived.Test.YtadpmbipdafjiaaTpl
import Derived.Test.YtadpmbipdafjiaaGam
namespace Go.AI
open Go Go.RowKit

/-- The data of arguments. -/
@[reducible] def PM.T : PM → Type
  | .d s => s.T
  | .o _ s => List s.T
  | .f => Nat
@[reducible] def ArgsT : List PM → Type
  | [] => Unit
  | m :: ms => m.T × ArgsT ms
def PM.take : (m : PM) → BV → Option m.T
  | .d s, .d t x => if h : t = s then some (castT h x) else none
  | .o E s, .o E' t xs => if h : t = s then (if E' = E then some (castT (s := .slc t) (t := .slc s) (by rw [h]) xs) else none) else none
  | .f, .f g => some g
  | _, _ => none
def PM.inst : (m : PM) → m.T → BV
  | .d s, x => .d s x
  | .o E s, x => .o E s x
  | .f, g => .f g
theorem PM.take_eq : ∀ (m : PM) {b : BV} {x : m.T}, m.take b = some x → b = m.inst x
  | .d s, b, x, h => by
    cases b <;> simp only [PM.take] at h <;> try cases h
    split at h
    · rename_i hs; subst hs; cases h; rfl
    · cases h
  | .o E s, b, x, h => by
    cases b <;> simp only [PM.take] at h <;> try cases h
    split at h
    · rename_i hs; subst hs
      split at h
      · rename_i he; subst he; cases h; rfl
      · cases h
    · cases h
  | .f, b, x, h => by cases b <;> simp only [PM.take] at h <;> first | (cases h; rfl) | cases h
def argsTake : (ms : List PM) → List BV → Option (ArgsT ms)
  | [], [] => some ()
  | m :: ms, b :: bs => match m.take b, argsTake ms bs with
    | some x, some y => some (x, y)
    | _, _ => none
  | _, _ => none
def argsInst : (ms : List PM) → ArgsT ms → List BV
  | [], _ => []
  | m :: ms, x => m.inst x.1 :: argsInst ms x.2
theorem argsTake_eq : ∀ (ms : List PM) {bs : List BV} {x : ArgsT ms}, argsTake ms bs = some x → bs = argsInst ms x
  | [], bs, x, h => by cases bs <;> simp only [argsTake] at h <;> first | rfl | cases h
  | m :: ms, bs, x, h => by
    cases bs with
    | nil => simp [argsTake] at h
    | cons b bs =>
      simp only [argsTake] at h
      split at h
      · rename_i y z h1 h2; cases h
        rw [PM.take_eq m h1, argsTake_eq ms h2]; rfl
      · cases h

/-- A contract out of plain functions. -/
def Orc.of (ps : List PM) (fresh : Bool) (rows : Nat) (f : ArgsT ps → Bool × List BV) : Orc := { ps := ps, fresh := fresh, rows := rows, fn := fun bs => (argsTake ps bs).map f }

/-- Contracts by number. -/
def orcsOf : List (FuncId × Orc) → Orcs
  | [], _ => none
  | p :: l, g => bif Nat.beq p.1 g then some p.2 else orcsOf l g
theorem orcsOf_ok {P : Program} : ∀ {l : List (FuncId × Orc)}, (∀ p, p ∈ l → Contract P p.1 p.2) → OrcsOk P (orcsOf l)
  | [], _ => fun f k h => by cases h
  | p :: l, hl => fun f k h => by
    simp only [orcsOf] at h
    rcases bif_some h with ⟨hb, h⟩ | ⟨_, h⟩
    · cases h
      rw [← Nat.eq_of_beq_eq_true hb]
      exact hl p List.mem_cons_self
    · exact orcsOf_ok (fun q hq => hl q (List.mem_cons_of_mem _ hq)) f k h
def hintsOf : List (FuncId × Hint) → FuncId → Hint
  | [], _ => {}
  | p :: l, g => bif Nat.beq p.1 g then p.2 else hintsOf l g
def needsOf : List (FuncId × Nat) → FuncId → Nat
  | [], _ => 0
  | p :: l, g => bif Nat.beq p.1 g then p.2 else needsOf l g
/-- Shortcuts by function and loop. -/
structure LoE (R : Type) where
  f : FuncId
  key : Nat
  o : LO R
def losOf {R : Type} : List (LoE R) → FuncId → LOs R
  | [], _ => fun _ => none
  | p :: l, g => fun key => bif Nat.beq p.f g && Nat.beq p.key key then some p.o else losOf l g key
def LO.or {R : Type} (a b : LO R) : LO R := fun st k => match a st k with
  | some r => some r
  | none => b st k

section
variable {R : Type} {P : Program} {B : BookL R} {F : Nat}

def stepL (P : Program) (B : BookL R) (F d : Nat) (f : FuncId) (body : Code) : ASt → (AExit → ASt → Option R) → Option R :=
  fun st k => execL B.Γ B.orc (acallL P B F (d + B.need f)) (B.lo f) (headOf P B.toBook f) F body st k
/-- A loop's shortcut does what the loop does. -/
def LoIs (P : Program) (B : BookL R) (F : Nat) (e : LoE R) (body : Code) : Prop :=
  ∀ d st k r, e.o st k = some r → loopN (stepL P B F d e.f body) (headOf P B.toBook e.f) F st k = some r
def LoOne (P : Program) (B : BookL R) (F : Nat) (e : LoE R) : Prop := ∀ body, body ∈ loopsOf (codeOf P e.f) → loopKey body = e.key → LoIs P B F e body
theorem loOk_of {l : List (LoE R)} (hB : B.lo = losOf l) (h : ∀ e, e ∈ l → LoOne P B F e) : LoOk P B F := by
  intro f body hb o ho d st k r hr
  have key : ∀ (l : List (LoE R)), (∀ e, e ∈ l → LoOne P B F e) → losOf l f (loopKey body) = some o → ∃ e, e ∈ l ∧ e.f = f ∧ e.key = loopKey body ∧ e.o = o := by
    intro l
    induction l with
    | nil => intro _ h; cases h
    | cons p l ih =>
      intro hl h
      simp only [losOf] at h
      rcases bif_some h with ⟨hc, h⟩ | ⟨_, h⟩
      · cases h
        simp only [Bool.and_eq_true] at hc
        exact ⟨p, List.mem_cons_self, Nat.eq_of_beq_eq_true hc.1, Nat.eq_of_beq_eq_true hc.2, rfl⟩
      · obtain ⟨e, h1, h2⟩ := ih (fun q hq => hl q (List.mem_cons_of_mem _ hq)) h
        exact ⟨e, List.mem_cons_of_mem _ h1, h2⟩
  rw [hB] at ho
  obtain ⟨e, h1, rfl, h3, rfl⟩ := key l h ho
  exact h e h1 body hb h3.symm d st k r hr

theorem nodupB_inj {l : List Nat} (h : nodupB l = true) {i j : Nat} {x : Nat} (hi : l[i]? = some x) (hj : l[j]? = some x) : i = j :=
by
  rcases Nat.lt_or_ge i l.length with h' | h'
  · exact (List.getElem?_inj h' (nodupB_ok h)).1 (hi.trans hj.symm)
  · rw [List.getElem?_eq_none h'] at hi; cases hi
/-- There is one loop with a key. -/
theorem loOne_of {e : LoE R} (j : Nat) (hn : nodupB ((loopsOf (codeOf P e.f)).map loopKey) = true) (hj : ((loopsOf (codeOf P e.f)).map loopKey)[j]? = some e.key) (h : LoIs P B F e ((loopsOf (codeOf P e.f)).getD j .skip)) : LoOne P B F e := by
  intro body hb hk
  obtain ⟨i, hi⟩ := List.mem_iff_getElem?.1 hb
  have h1 : ((loopsOf (codeOf P e.f)).map loopKey)[i]? = some e.key := by rw [List.getElem?_map, hi, Option.map_some, hk]
  have := nodupB_inj hn h1 hj
  subst this
  have h2 : (loopsOf (codeOf P e.f)).getD i .skip = body := by simp only [List.getD, hi, Option.getD_some]
  rwa [h2] at h
theorem loIs_of {f : FuncId} {key : Nat} {t : Tpl} {g : t.T → (AExit → ASt → Option R) → Option R} {body : Code} (h : ∀ d x k, loopN (stepL P B F d f body) (headOf P B.toBook f) F (t.inst x) k = g x k) : LoIs P B F ⟨f, key, LO.of t g⟩ body := by
  intro d st k r hr
  obtain ⟨x, rfl, hx⟩ := LO.of_some hr
  rw [h]; exact hx
theorem loIs_or {f : FuncId} {key : Nat} {a b : LO R} {body : Code} (ha : LoIs P B F ⟨f, key, a⟩ body) (hb : LoIs P B F ⟨f, key, b⟩ body) : LoIs P B F ⟨f, key, a.or b⟩ body := by
  intro d st k r hr
  simp only [LO.or] at hr
  split at hr
  · rename_i r' h'; cases hr; exact ha d st k _ h'
  · exact hb d st k r hr
end

/-- A contract, from a run with shortcuts. -/
theorem contract_of_runL {P : Program} (hN : NoNum P) (hm : P.follows .mixedOrders = true) {B0 : Book} (hΓ : GamOk P B0.Γ) (hO : OrcsOk P B0.orc) {f : FuncId} (hthere : (P.funcs[f]?.map fun fn => fn.body.isNone) = some false)
    {ps : List PM} {fresh : Bool} {rows : Nat} {g : ArgsT ps → Bool × List BV} {ms : List PM}
    (h : ∀ x, (g x).1 = true → ∃ (F d : Nat) (B : BookL Unit), B.toBook = B0 ∧ LoOk P B F ∧ ∀ kend, runFnL P B F d f (argsInst ps x) ms kend = kend (g x).2) : Contract P f (Orc.of ps fresh rows g) := by
  have ht : ∃ fn, P.funcs[f]? = some fn ∧ fn.body.isNone = false := by
    cases hf : P.funcs[f]? with
    | none => rw [hf] at hthere; cases hthere
    | some fn => rw [hf] at hthere; exact ⟨fn, rfl, by simpa using hthere⟩
  refine contract_of_run (ms := ms) hN hΓ hO (drawn_ok hm hΓ hO) ht (fun bs rs hk _ => ?_)
  simp only [Orc.of, Option.map_eq_some_iff] at hk
  obtain ⟨x, hx, hg⟩ := hk
  have hbs := argsTake_eq ps hx
  subst hbs
  obtain ⟨F, d, B, h1, h3, h4⟩ := h x (by rw [hg])
  have hrs : rs = (g x).2 := by rw [hg]
  subst hrs
  refine ⟨F, d, fun kend hk => ?_⟩
  have hr := runFnL_le h3 ((h4 kend).trans hk)
  rwa [h1] at hr
/-- Both ways lead to the same. -/
theorem both_self (x : Option Unit) : both x x = x := by cases x <;> rfl

end Go.AI
