/- What operations do to the state, in whatever order. -/
import Derived.Test.YtadpmbipdafjiaaLocal
namespace Go.AI
open Go Go.RowKit

/-- What an operation does to the slots and the objects. -/
structure Eff where
  dst : Option Tmp
  v : AV
  U : Upd
  deriving Inhabited
def Eff.app (e : Eff) (s : List AV × List AObj) : List AV × List AObj := (putDst s.1 e.dst e.v, upd s.2 e.U)

/-- The effects that are listed, in the order of the text. -/
def foldD : List Eff → (Nat → Bool) → Nat → List AV × List AObj → List AV × List AObj
  | [], _, _, s => s
  | e :: es, D, i, s => foldD es D (i + 1) (if D i then e.app s else s)

theorem app_len (e : Eff) (s : List AV × List AObj) : (e.app s).1.length = s.1.length ∧ (e.app s).2.length = s.2.length := by
  refine ⟨?_, upd_len _ _⟩
  unfold Eff.app putDst
  cases e.dst <;> simp
theorem foldD_len : ∀ (es : List Eff) (D : Nat → Bool) (i : Nat) (s : List AV × List AObj), (foldD es D i s).1.length = s.1.length ∧ (foldD es D i s).2.length = s.2.length
  | [], _, _, _ => ⟨rfl, rfl⟩
  | e :: es, D, i, s => by
    simp only [foldD]
    obtain ⟨h1, h2⟩ := foldD_len es D (i + 1) (if D i then e.app s else s)
    obtain ⟨g1, g2⟩ := app_len e s
    rw [h1, h2]
    split <;> simp [g1, g2]

/-- Two effects that do not touch each other. -/
def Apart (e f : Eff) : Prop := (∀ d, e.dst = some d → f.dst ≠ some d) ∧ ∀ x, x ∈ e.U → ∀ y, y ∈ f.U → x.1 ≠ y.1

theorem set_upd (o : Nat) (ob : AObj) : ∀ (U : Upd) (H : List AObj), (∀ y, y ∈ U → o ≠ y.1) → upd (H.set o ob) U = (upd H U).set o ob
  | [], _, _ => rfl
  | y :: U, H, h => by
    show upd ((H.set o ob).set y.1 y.2) U = (upd (H.set y.1 y.2) U).set o ob
    rw [List.set_comm _ _ (h y List.mem_cons_self)]
    exact set_upd o ob U _ (fun z hz => h z (List.mem_cons_of_mem _ hz))
theorem upd_comm : ∀ (U V : Upd) (H : List AObj), (∀ x, x ∈ U → ∀ y, y ∈ V → x.1 ≠ y.1) → upd (upd H U) V = upd (upd H V) U
  | [], _, _, _ => rfl
  | x :: U, V, H, h => by
    show upd (upd (H.set x.1 x.2) U) V = upd ((upd H V).set x.1 x.2) U
    rw [upd_comm U V _ (fun z hz => h z (List.mem_cons_of_mem _ hz)), set_upd x.1 x.2 V H (h x List.mem_cons_self)]

theorem app_comm {e f : Eff} (h : Apart e f) (s : List AV × List AObj) : f.app (e.app s) = e.app (f.app s) := by
  unfold Eff.app
  simp only
  rw [upd_comm _ _ _ h.2]
  congr 1
  unfold putDst
  cases he : e.dst with
  | none => rfl
  | some d =>
    cases hf : f.dst with
    | none => rfl
    | some d' =>
      simp only
      exact List.set_comm _ _ (fun e1 => h.1 d he (by rw [hf, e1]))

theorem foldD_push {e0 : Eff} : ∀ (es : List Eff) (D : Nat → Bool) (i : Nat) (s : List AV × List AObj), (∀ j e, es[j]? = some e → D (i + j) = true → Apart e0 e) → foldD es D i (e0.app s) = e0.app (foldD es D i s)
  | [], _, _, _, _ => rfl
  | e :: es, D, i, s, h => by
    simp only [foldD]
    have ih := fun s => foldD_push es D (i + 1) s (fun j f hj hD => h (j + 1) f (by simpa using hj) (by rwa [show i + (j + 1) = i + 1 + j by omega]))
    cases hD : D i with
    | false => simp only [Bool.false_eq_true, if_false]; exact ih s
    | true =>
      simp only [if_true]
      rw [app_comm (h 0 e rfl (by simpa using hD)), ih]

/-- One effect more. -/
theorem foldD_add {e0 : Eff} {D D' : Nat → Bool} {k : Nat} (hD : D k = false) (hD' : ∀ j, D' j = (D j || j == k)) : ∀ (es : List Eff) (i : Nat) (s : List AV × List AObj), i ≤ k → es[k - i]? = some e0 → (∀ j e, es[j]? = some e → k < i + j → D (i + j) = true → Apart e0 e) →
    foldD es D' i s = e0.app (foldD es D i s)
  | [], i, s, _, h0, _ => by simp at h0
  | e :: es, i, s, hik, h0, ha => by
    simp only [foldD]
    by_cases h : i = k
    · subst h
      rw [Nat.sub_self] at h0
      simp only [List.getElem?_cons_zero, Option.some.injEq] at h0
      subst h0
      have h1 : D' i = true := by rw [hD']; simp
      rw [h1, hD]
      simp only [if_true, Bool.false_eq_true, if_false]
      have same : ∀ (es : List Eff) (m : Nat) (s : List AV × List AObj), i < m → foldD es D' m s = foldD es D m s := by
        intro es
        induction es with
        | nil => intro m s _; rfl
        | cons f es ih =>
          intro m s hm
          have : D' m = D m := by rw [hD']; have : (m == i) = false := by simpa using Nat.ne_of_gt hm
                                  rw [this, Bool.or_false]
          simp only [foldD, this]
          exact ih (m + 1) _ (by omega)
      rw [same es (i + 1) _ (by omega)]
      exact foldD_push es D (i + 1) s (fun j f hj hDj => ha (j + 1) f (by simpa using hj) (by omega) (by rwa [show i + (j + 1) = i + 1 + j by omega]))
    · have h1 : D' i = D i := by
        rw [hD']
        have : (i == k) = false := by simpa using h
        rw [this, Bool.or_false]
      rw [h1]
      refine foldD_add hD hD' es (i + 1) _ (by omega) ?_ (fun j f hj hlt hDj => ha (j + 1) f (by simpa using hj) (by omega) (by rwa [show i + (j + 1) = i + 1 + j by omega]))
      have e1 : k - i = (k - (i + 1)) + 1 := by omega
      rw [e1] at h0
      simpa using h0

/-- A slot depends on the effects that it is the end of. -/
theorem foldD_slot {t : Nat} : ∀ (es : List Eff) (D D' : Nat → Bool) (i : Nat) (s s' : List AV × List AObj), s.1.length = s'.1.length → s.1.getD t .dead = s'.1.getD t .dead → (∀ j e, es[j]? = some e → e.dst = some t → D (i + j) = D' (i + j)) → (foldD es D i s).1.getD t .dead = (foldD es D' i s').1.getD t .dead
  | [], _, _, _, _, _, _, h, _ => h
  | e :: es, D, D', i, s, s', hl, h, hd => by
    simp only [foldD]
    have other : ∀ (u : List AV × List AObj), e.dst ≠ some t → (e.app u).1.getD t .dead = u.1.getD t .dead := by
      intro u hne
      unfold Eff.app putDst
      cases hdst : e.dst with
      | none => rfl
      | some d =>
        have : d ≠ t := fun e1 => hne (by rw [hdst, e1])
        simp [List.getD, List.getElem?_set_ne this]
    refine foldD_slot es D D' (i + 1) _ _ ?_ ?_ (fun j f hj hf => by
      have := hd (j + 1) f (by simpa using hj) hf
      rwa [show i + (j + 1) = i + 1 + j by omega] at this)
    · have h1 := (app_len e s).1
      have h2 := (app_len e s').1
      split <;> split <;> omega
    · by_cases hdst : e.dst = some t
      · have := hd 0 e rfl hdst
        simp only [Nat.add_zero] at this
        rw [this]
        split
        · unfold Eff.app putDst
          simp only [hdst, List.getD, List.getElem?_set, hl, if_true]
        · exact h
      · have a1 := other s hdst
        have a2 := other s' hdst
        split <;> split <;> simp only [a1, a2, h]
/-- So does an object. -/
theorem foldD_obj {o : Nat} : ∀ (es : List Eff) (D D' : Nat → Bool) (i : Nat) (s s' : List AV × List AObj), s.2.length = s'.2.length → ASt.obj s.2 o = ASt.obj s'.2 o → (∀ j e, es[j]? = some e → (∃ x, x ∈ e.U ∧ x.1 = o) → D (i + j) = D' (i + j)) → ASt.obj (foldD es D i s).2 o = ASt.obj (foldD es D' i s').2 o
  | [], _, _, _, _, _, _, h, _ => h
  | e :: es, D, D', i, s, s', hl, h, hd => by
    simp only [foldD]
    refine foldD_obj es D D' (i + 1) _ _ ?_ ?_ (fun j f hj hf => by
      have := hd (j + 1) f (by simpa using hj) hf
      rwa [show i + (j + 1) = i + 1 + j by omega] at this)
    · have h1 := (app_len e s).2
      have h2 := (app_len e s').2
      split <;> split <;> omega
    · by_cases hk : ∃ x, x ∈ e.U ∧ x.1 = o
      · have := hd 0 e rfl hk
        simp only [Nat.add_zero] at this
        rw [this]
        split
        · have key : ∀ (U : Upd) (H H' : List AObj), H.length = H'.length → ASt.obj H o = ASt.obj H' o → ASt.obj (upd H U) o = ASt.obj (upd H' U) o := by
            intro U
            induction U with
            | nil => intro H H' _ h; exact h
            | cons x U ih =>
              intro H H' hl h
              refine ih _ _ (by simpa using hl) ?_
              show ASt.obj (H.set x.1 x.2) o = ASt.obj (H'.set x.1 x.2) o
              by_cases hx : x.1 = o
              · subst hx
                rcases Nat.lt_or_ge x.1 H.length with hlt | hge
                · rw [obj_set_same hlt, obj_set_same (by omega)]
                · rw [List.set_eq_of_length_le hge, List.set_eq_of_length_le (by omega)]; exact h
              · rw [obj_set_other hx, obj_set_other hx]; exact h
          exact key _ _ _ hl h
        · exact h
      · have a1 : ASt.obj (e.app s).2 o = ASt.obj s.2 o := upd_other e.U s.2 (fun x hx hxo => hk ⟨x, hx, hxo⟩)
        have a2 : ASt.obj (e.app s').2 o = ASt.obj s'.2 o := upd_other e.U s'.2 (fun x hx hxo => hk ⟨x, hx, hxo⟩)
        split <;> split <;> simp only [a1, a2, h]
end Go.AI
