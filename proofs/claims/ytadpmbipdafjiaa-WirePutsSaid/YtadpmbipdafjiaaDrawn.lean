/- Regions whose order is drawn. -/
import Derived.Test.YtadpmbipdafjiaaEff
import Derived.Orders
namespace Go.AI
open Go Go.RowKit

/-- One operation of a region whose order is drawn: its effect, and what it touches. -/
def dstep (Γ : Gam) (orc : Orcs) (all : List Oper) (o : Oper) (nid : Nat) (cur : List AV) (H : List AObj) : Option (Eff × FP) :=
  let go : Option (Eff × FP) := match astep Γ orc o.op cur H nid with
    | some (true, v, U) => some (⟨o.dst, v, U⟩, fpOf orc o cur nid U)
    | _ => none
  bif offGuard all cur o then some (⟨o.dst, und, []⟩, ⟨[], []⟩) else
  match o.guard with
  | none => go
  | some (j, want) => match guardAt all cur j with
    | none => none
    | some (_, b) => if b == want then go else some (⟨o.dst, und, []⟩, ⟨[], []⟩)

def nidAt (orc : Orcs) (nid : Nat) (l : List Oper) : Nat := nid + makesAll orc l

/-- The effects of operations in the order of the text. -/
inductive Trace (Γ : Gam) (orc : Orcs) (all : List Oper) : List Oper → Nat → List AV × List AObj → List Eff → List FP → Prop
  | nil {nid : Nat} {s : List AV × List AObj} : Trace Γ orc all [] nid s [] []
  | cons {o : Oper} {rest : List Oper} {nid : Nat} {s : List AV × List AObj} {e : Eff} {fp : FP} {es : List Eff} {fps : List FP} :
      dstep Γ orc all o nid s.1 s.2 = some (e, fp) → Trace Γ orc all rest (nid + makes orc o.op) (e.app s) es fps → Trace Γ orc all (o :: rest) nid s (e :: es) (fp :: fps)

section
variable {P : Program} {Γ : Gam} {orc : Orcs} {all : List Oper} {R : Type}

theorem set_guard {cur : List AV} {j d : Nat} {b : Bool} (h : guardAt all cur j = some (d, b)) : cur.set d (.dat .bool b) = cur := by
  unfold guardAt at h
  split at h
  · split at h
    · rename_i hb
      cases h
      exact set_self hb
    · cases h
  · cases h

theorem xopsD_trace {k : List AV → List AObj → List FP → Option R} {r : R} : ∀ (rest : List Oper) (nid : Nat) (cur : List AV) (H : List AObj) (fps : List FP), xopsD Γ orc all rest nid cur H fps k = some r →
    ∃ es fs, Trace Γ orc all rest nid (cur, H) es fs ∧ k (es.foldl (fun s e => e.app s) (cur, H)).1 (es.foldl (fun s e => e.app s) (cur, H)).2 (fps ++ fs) = some r
  | [], nid, cur, H, fps, h => ⟨[], [], .nil, by simpa [xopsD] using h⟩
  | o :: rest, nid, cur, H, fps, h => by
    have go : (match astep Γ orc o.op cur H nid with
      | some (c, v, U) => bif c then xopsD Γ orc all rest (nid + makes orc o.op) (putDst cur o.dst v) (upd H U) (fps ++ [fpOf orc o cur nid U]) k else none
      | none => none) = some r → ∃ v U, astep Γ orc o.op cur H nid = some (true, v, U) ∧ ∃ es fs, Trace Γ orc all rest (nid + makes orc o.op) (putDst cur o.dst v, upd H U) es fs ∧
        k (es.foldl (fun s e => e.app s) (putDst cur o.dst v, upd H U)).1 (es.foldl (fun s e => e.app s) (putDst cur o.dst v, upd H U)).2 (fps ++ fpOf orc o cur nid U :: fs) = some r := by
      intro h
      split at h
      · rename_i c v U ha
        cases c with
        | false => cases h
        | true =>
          obtain ⟨es, fs, h1, h2⟩ := xopsD_trace rest _ _ _ _ h
          exact ⟨v, U, ha, es, fs, h1, by simpa using h2⟩
      · cases h
    simp only [xopsD] at h
    rcases bif_some' h with ⟨hoff, h⟩ | ⟨hoff, h⟩
    · obtain ⟨es, fs, h1, h2⟩ := xopsD_trace rest _ _ _ _ h
      exact ⟨⟨o.dst, und, []⟩ :: es, ⟨[], []⟩ :: fs, .cons (by simp only [dstep, hoff]; rfl) h1, by
        have e1 : (⟨o.dst, und, []⟩ : Eff).app (cur, H) = (putDst cur o.dst und, H) := rfl
        rw [List.foldl_cons, e1]
        simpa using h2⟩
    split at h
    · rename_i hg
      obtain ⟨v, U, ha, es, fs, h1, h2⟩ := go h
      exact ⟨⟨o.dst, v, U⟩ :: es, fpOf orc o cur nid U :: fs, .cons (by simp [dstep, hoff, hg, ha]) h1, h2⟩
    · rename_i j want hg
      split at h
      · cases h
      · rename_i d b hgd
        have hs := set_guard hgd
        have h' : (if (b == want) = true then (match astep Γ orc o.op (cur.set d (.dat .bool b)) H nid with
            | some (c, v, U) => bif c then xopsD Γ orc all rest (nid + makes orc o.op) (putDst (cur.set d (.dat .bool b)) o.dst v) (upd H U) (fps ++ [fpOf orc o (cur.set d (.dat .bool b)) nid U]) k else none
            | none => none)
          else xopsD Γ orc all rest (nid + makes orc o.op) (putDst (cur.set d (.dat .bool b)) o.dst und) H (fps ++ [⟨[], []⟩]) k) = some r := by
          cases b <;> exact h
        rw [hs] at h'
        split at h'
        · rename_i hbw
          obtain ⟨v, U, ha, es, fs, h1, h2⟩ := go h'
          exact ⟨⟨o.dst, v, U⟩ :: es, fpOf orc o cur nid U :: fs, .cons (by simp only [dstep, hoff, cond_false, hg, hgd, hbw, if_true, ha]) h1, h2⟩
        · rename_i hbw
          obtain ⟨es, fs, h1, h2⟩ := xopsD_trace rest _ _ _ _ h'
          exact ⟨⟨o.dst, und, []⟩ :: es, ⟨[], []⟩ :: fs, .cons (by simp only [dstep, hoff, cond_false, hg, hgd, hbw]; rfl) h1, by
            have e1 : (⟨o.dst, und, []⟩ : Eff).app (cur, H) = (putDst cur o.dst und, H) := rfl
            rw [List.foldl_cons, e1]
            simpa using h2⟩

theorem foldD_none : ∀ (es : List Eff) (D : Nat → Bool) (i : Nat) (s : List AV × List AObj), (∀ j, i ≤ j → D j = false) → foldD es D i s = s
  | [], _, _, _, _ => rfl
  | e :: es, D, i, s, h => by
    simp only [foldD, h i (Nat.le_refl _), Bool.false_eq_true, if_false]
    exact foldD_none es D (i + 1) s (fun j hj => h j (by omega))
theorem foldD_all : ∀ (es : List Eff) (D : Nat → Bool) (i : Nat) (s : List AV × List AObj), (∀ j, i ≤ j → j < i + es.length → D j = true) → foldD es D i s = es.foldl (fun s e => e.app s) s
  | [], _, _, _, _ => rfl
  | e :: es, D, i, s, h => by
    simp only [foldD, h i (Nat.le_refl _) (by simp), if_true, List.foldl_cons]
    exact foldD_all es D (i + 1) _ (fun j hj hlt => h j (by omega) (by simp only [List.length_cons]; omega))

/-- Each operation's effect, at the state that the operations before it have left. -/
theorem trace_get : ∀ {rest : List Oper} {nid : Nat} {s : List AV × List AObj} {es : List Eff} {fs : List FP}, Trace Γ orc all rest nid s es fs → es.length = rest.length ∧ fs.length = rest.length ∧
    ∀ i o, rest[i]? = some o → ∃ e fp, es[i]? = some e ∧ fs[i]? = some fp ∧ ∀ b, dstep Γ orc all o (nid + makesAll orc (rest.take i)) (foldD es (fun j => decide (j < b + i)) b s).1 (foldD es (fun j => decide (j < b + i)) b s).2 = some (e, fp) := by
  intro rest nid s es fs h
  induction h with
  | nil => exact ⟨rfl, rfl, fun i o hi => by simp at hi⟩
  | @cons o rest nid s e fp es fs h1 _ ih =>
    obtain ⟨l1, l2, ih⟩ := ih
    refine ⟨by simp [l1], by simp [l2], fun i o' hi => ?_⟩
    cases i with
    | zero =>
      simp only [List.getElem?_cons_zero, Option.some.injEq] at hi
      subst hi
      refine ⟨e, fp, rfl, rfl, fun b => ?_⟩
      rw [foldD_none _ _ _ _ (fun j hj => by simp only [decide_eq_false_iff_not]; omega)]
      simpa [makesAll] using h1
    | succ i =>
      obtain ⟨e', fp', g1, g2, g3⟩ := ih i o' (by simpa using hi)
      refine ⟨e', fp', by simpa using g1, by simpa using g2, fun b => ?_⟩
      have := g3 (b + 1)
      simp only [foldD]
      rw [if_pos (by simp only [decide_eq_true_eq]; omega)]
      have e1 : (fun j => decide (j < b + 1 + i)) = (fun j => decide (j < b + (i + 1))) := by funext j; congr 2; omega
      rw [e1] at this
      simpa [makesAll, Nat.add_assoc] using this

theorem opnd_looks {o : Oper} {cur cur' : List AV} (h : ∀ t, t ∈ looksAt all o → cur.getD t .dead = cur'.getD t .dead) : ∀ x, x ∈ o.op.operands.toList → opnd cur x = opnd cur' x := by
  intro x hx
  cases x with
  | tmp t =>
    refine h t (List.mem_append_left _ (List.mem_filterMap.2 ⟨.tmp t, hx, rfl⟩))
  | _ => rfl
theorem guard_looks {o : Oper} {j : Nat} {want : Bool} {cur cur' : List AV} (hg : o.guard = some (j, want)) (h : ∀ t, t ∈ looksAt all o → cur.getD t .dead = cur'.getD t .dead) : guardAt all cur j = guardAt all cur' j := by
  unfold guardAt
  cases hd : (all[j]?).bind (·.dst) with
  | none => rfl
  | some d =>
    have : d ∈ looksAt all o := List.mem_append_right _ (by simp [hg, hd])
    simp only [h d this]

theorem off_looks {o : Oper} {cur cur' : List AV} (h : ∀ t, t ∈ looksAt all o → cur.getD t .dead = cur'.getD t .dead) : offGuard all cur o = offGuard all cur' o := by
  unfold offGuard
  cases hg : o.guard with
  | none => rfl
  | some jw =>
    obtain ⟨j, want⟩ := jw
    simp only
    cases hd : (all[j]?).bind (·.dst) with
    | none => rfl
    | some d =>
      have : d ∈ looksAt all o := List.mem_append_right _ (by simp [hg, hd])
      simp only [h d this]

theorem dstep_loc {o : Oper} {nid : Nat} {cur cur' : List AV} {H H' : List AObj} {e : Eff} {fp : FP} (hd : dstep Γ orc all o nid cur H = some (e, fp)) (h : ∀ t, t ∈ looksAt all o → cur.getD t .dead = cur'.getD t .dead) (hr : SameAt H H' fp.rd) (hl : H.length = H'.length) :
    dstep Γ orc all o nid cur' H' = some (e, fp) := by
  have hc := opnd_looks h
  have run : ∀ {e : Eff} {fp : FP}, (match astep Γ orc o.op cur H nid with
      | some (true, v, U) => some ((⟨o.dst, v, U⟩ : Eff), fpOf orc o cur nid U)
      | _ => none) = some (e, fp) → SameAt H H' fp.rd → (match astep Γ orc o.op cur' H' nid with
      | some (true, v, U) => some ((⟨o.dst, v, U⟩ : Eff), fpOf orc o cur' nid U)
      | _ => none) = some (e, fp) := by
    intro e fp hm hr
    split at hm
    · rename_i v U ha
      cases hm
      have e1 : refsOf cur o.op.operands.toList = refsOf cur' o.op.operands.toList := by
        unfold refsOf
        rw [List.flatMap_def, List.flatMap_def, List.map_congr_left (fun x hx => by rw [hc x hx])]
      have hl' := astep_loc (Γ := Γ) (orc := orc) (nid := nid) hc (hr.mono fun n hn => List.mem_append_left _ hn) (fun j hj => hr _ (List.mem_append_right _ (List.mem_map.2 ⟨j, List.mem_range.2 hj, rfl⟩))) hl
      rw [← hl', ha]
      simp only [fpOf]
      have e2 : (o.op.operands.toList.flatMap fun x => (opnd cur x).refs) = (o.op.operands.toList.flatMap fun x => (opnd cur' x).refs) := e1
      rw [e2]
    · cases hm
  unfold dstep at hd ⊢
  rw [← off_looks h]
  rcases bif_some' hd with ⟨hoff, hd⟩ | ⟨hoff, hd⟩
  · simp only [hoff, cond_true]; exact hd
  simp only [hoff, cond_false]
  cases hg : o.guard with
  | none =>
    rw [hg] at hd
    exact run hd hr
  | some jw =>
    obtain ⟨j, want⟩ := jw
    rw [hg] at hd
    simp only at hd ⊢
    rw [← guard_looks hg h]
    cases hgd : guardAt all cur j with
    | none => rw [hgd] at hd; cases hd
    | some db =>
      obtain ⟨d, b⟩ := db
      rw [hgd] at hd
      simp only at hd ⊢
      cases hbw : b == want with
      | true =>
        rw [hbw] at hd
        exact run hd hr
      | false =>
        rw [hbw] at hd
        exact hd
theorem dstep_eff {o : Oper} {nid : Nat} {cur : List AV} {H : List AObj} {e : Eff} {fp : FP} (hd : dstep Γ orc all o nid cur H = some (e, fp)) : e.dst = o.dst ∧ ∀ x, x ∈ e.U → x.1 ∈ fp.wr := by
  have run : ∀ {e : Eff} {fp : FP}, (match astep Γ orc o.op cur H nid with
      | some (true, v, U) => some ((⟨o.dst, v, U⟩ : Eff), fpOf orc o cur nid U)
      | _ => none) = some (e, fp) → e.dst = o.dst ∧ ∀ x, x ∈ e.U → x.1 ∈ fp.wr := by
    intro e fp hm
    split at hm
    · cases hm
      exact ⟨rfl, fun x hx => List.mem_map.2 ⟨x, hx, rfl⟩⟩
    · cases hm
  unfold dstep at hd
  rcases bif_some' hd with ⟨hoff, hd⟩ | ⟨hoff, hd⟩
  · cases hd
    exact ⟨rfl, fun x hx => by cases hx⟩
  cases hg : o.guard with
  | none =>
    rw [hg] at hd
    exact run hd
  | some jw =>
    obtain ⟨j, want⟩ := jw
    rw [hg] at hd
    simp only at hd
    cases hgd : guardAt all cur j with
    | none => rw [hgd] at hd; cases hd
    | some db =>
      obtain ⟨d, b⟩ := db
      rw [hgd] at hd
      simp only at hd
      cases hbw : b == want with
      | true =>
        rw [hbw] at hd
        exact run hd
      | false =>
        rw [hbw] at hd
        cases hd
        exact ⟨rfl, fun x hx => by cases hx⟩

/-- One operation, in the model. -/
theorem dstep_wp (hΓ : GamOk P Γ) (hO : OrcsOk P orc) {c : Ctx} {w : World} {ρ : Rho} {st : ASt} {a : Act} {TS : List (Array Value)} {ops : Array Oper} (hops : ops.toList = all) {i nid : Nat} {o : Oper} (hi : ops[i]? = some o) {e : Eff} {fp : FP}
    (hd : dstep Γ orc all o nid st.cur st.heap = some (e, fp)) (h : StRel c w ρ st a TS) {K : Act → World → Prop} {Q : Exit → Act → World → Prop}
    (hK : ∀ a' w' ρ', StRel c w' ρ' { st with cur := (e.app (st.cur, st.heap)).1, heap := (e.app (st.cur, st.heap)).2 } a' TS → K a' w') : wpOp P ops Q i K a w := by
  have run : Region.wanted o (yielded ops a.tmps) = true → (match astep Γ orc o.op st.cur st.heap nid with
      | some (true, v, U) => some ((⟨o.dst, v, U⟩ : Eff), fpOf orc o st.cur nid U)
      | _ => none) = some (e, fp) → wpOp P ops Q i K a w := by
    intro hw hm
    split at hm
    · rename_i v U ha
      cases hm
      unfold wpOp
      rw [hi]
      simp only [hw, if_true]
      left
      exact astep_ok hΓ hO h.ok h.cur ha K Q (fun val w' ρ' hv T => hK _ w' ρ' (h.step T hv))
    · cases hm
  unfold dstep at hd
  rcases bif_some' hd with ⟨hoff, hd⟩ | ⟨hoff, hd⟩
  · cases hd
    unfold wpOp
    rw [hi]
    simp only [off_val (w := w) (H := st.heap) (ρ := ρ) hops hoff h.cur, Bool.false_eq_true, if_false]
    refine hK _ w ρ ⟨h.ok, h.cur.put und_rv, h.stk, ?_⟩
    rw [← h.defers]; cases o.dst <;> rfl
  cases hg : o.guard with
  | none =>
    rw [hg] at hd
    exact run (by simp [Region.wanted, hg]) hd
  | some jw =>
    obtain ⟨j, want⟩ := jw
    rw [hg] at hd
    simp only at hd
    cases hgd : guardAt all st.cur j with
    | none => rw [hgd] at hd; cases hd
    | some db =>
      obtain ⟨d, b⟩ := db
      rw [hgd] at hd
      simp only at hd
      obtain ⟨hy, _, _⟩ := guard_val (w := w) (H := st.heap) (ρ := ρ) hops hgd h.cur
      have hw : Region.wanted o (yielded ops a.tmps) = (b == want) := by simp [Region.wanted, hg, hy]
      cases hbw : b == want with
      | true =>
        rw [hbw] at hd
        exact run (by rw [hw, hbw]) hd
      | false =>
        rw [hbw] at hd
        cases hd
        unfold wpOp
        rw [hi]
        simp only [hw, hbw, Bool.false_eq_true, if_false]
        refine hK _ w ρ ⟨h.ok, h.cur.put und_rv, h.stk, ?_⟩
        rw [← h.defers]; cases o.dst <;> rfl
end
end Go.AI
