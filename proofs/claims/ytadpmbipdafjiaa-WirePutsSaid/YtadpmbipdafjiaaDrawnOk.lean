/- Regions whose order is drawn are sound. -/
import Derived.Test.YtadpmbipdafjiaaDrawn
namespace Go.AI
open Go Go.RowKit

theorem testBit_fold (acc : List Nat) (i : Nat) : ∀ (l : List Edge) (s : Nat), (l.foldl (fun s e => if Region.binds .any e then s ||| 2 ^ e.on ||| acc.getD e.on 0 else s) s).testBit i = true → s.testBit i = true ∨ ∃ e, e ∈ l ∧ Region.binds .any e = true ∧ (e.on = i ∨ (acc.getD e.on 0).testBit i = true)
  | [], s, h => .inl h
  | e :: l, s, h => by
    simp only [List.foldl_cons] at h
    rcases testBit_fold acc i l _ h with h | ⟨f, hf, h⟩
    · split at h
      · rename_i hb
        simp only [Nat.testBit_or, Bool.or_eq_true, Nat.testBit_two_pow, decide_eq_true_eq] at h
        rcases h with (h | h) | h
        · exact .inl h
        · exact .inr ⟨e, List.mem_cons_self, hb, .inl h⟩
        · exact .inr ⟨e, List.mem_cons_self, hb, .inr h⟩
      · exact .inl h
    · exact .inr ⟨f, List.mem_cons_of_mem _ hf, h⟩

theorem befores_spec : ∀ (l : List Oper) (acc : List Nat), (∀ j, j < acc.length → (befores l acc).getD j 0 = acc.getD j 0) ∧
    ∀ j o i, l[j]? = some o → ((befores l acc).getD (acc.length + j) 0).testBit i = true → ∃ e, e ∈ o.after.toList ∧ Region.binds .any e = true ∧ (e.on = i ∨ ((befores l acc).getD e.on 0).testBit i = true)
  | [], acc => ⟨fun j _ => rfl, fun j o i h => by simp at h⟩
  | o :: l, acc => by
    obtain ⟨h1, h2⟩ := befores_spec l (acc ++ [o.after.toList.foldl (fun s e => if Region.binds .any e then s ||| 2 ^ e.on ||| acc.getD e.on 0 else s) 0])
    refine ⟨fun j hj => ?_, fun j o' i hj hb => ?_⟩
    · simp only [befores]
      rw [h1 j (by simp; omega)]
      simp [List.getD, List.getElem?_append_left hj]
    · simp only [befores] at hb ⊢
      cases j with
      | zero =>
        simp only [List.getElem?_cons_zero, Option.some.injEq] at hj
        subst hj
        rw [Nat.add_zero, h1 acc.length (by simp)] at hb
        have e1 : (acc ++ [o.after.toList.foldl (fun s e => if Region.binds .any e then s ||| 2 ^ e.on ||| acc.getD e.on 0 else s) 0]).getD acc.length 0 = o.after.toList.foldl (fun s e => if Region.binds .any e then s ||| 2 ^ e.on ||| acc.getD e.on 0 else s) 0 := by simp [List.getD]
        rw [e1] at hb
        rcases testBit_fold acc i _ _ hb with hz | ⟨e, he, hbd, hor⟩
        · simp at hz
        · refine ⟨e, he, hbd, hor.imp id fun ht => ?_⟩
          have hlt : e.on < acc.length := by
            rcases Nat.lt_or_ge e.on acc.length with h | h
            · exact h
            · simp [List.getD, List.getElem?_eq_none h] at ht
          rw [h1 e.on (by simp; omega)]
          simpa [List.getD, List.getElem?_append_left hlt] using ht
      | succ j =>
        refine h2 j o' i (by simpa using hj) ?_
        simpa [Nat.add_assoc, Nat.add_comm 1 j] using hb

section
variable {P : Program} {Γ : Gam} {orc : Orcs}

theorem ready_mem {ops : Array Oper} {listed : Array Bool} {i : Nat} (h : i ∈ Region.ready .any ops listed) : ∃ o, ops[i]? = some o ∧ listed.getD i true = false ∧ ∀ e, e ∈ o.after.toList → Region.binds .any e = true → listed.getD e.on false = true := by
  unfold Region.ready at h
  rw [List.mem_filter] at h
  obtain ⟨hr, hc⟩ := h
  have hlt := List.mem_range.1 hr
  simp only [Bool.and_eq_true, Bool.not_eq_true', Array.getElem?_eq_getElem hlt, Option.map_some, Option.getD_some] at hc
  refine ⟨ops[i], Array.getElem?_eq_getElem hlt, hc.1, fun e he hb => ?_⟩
  have := Array.all_eq_true'.1 hc.2 e (by simpa using he)
  simpa [hb] using this

/-- What stands at a place of the text. -/
structure Laid (Γ : Gam) (orc : Orcs) (all : List Oper) (nid : Nat) (s : List AV × List AObj) (es : List Eff) (fs : List FP) : Prop where
  len : es.length = all.length
  at_ : ∀ i o, all[i]? = some o → ∃ e fp, es[i]? = some e ∧ fs[i]? = some fp ∧ dstep Γ orc all o (nid + makesAll orc (all.take i)) (foldD es (fun j => decide (j < i)) 0 s).1 (foldD es (fun j => decide (j < i)) 0 s).2 = some (e, fp)
  indep : indepAll all (befores all []) fs = true

theorem Laid.pair {all : List Oper} {nid : Nat} {s : List AV × List AObj} {es : List Eff} {fs : List FP} (h : Laid Γ orc all nid s es fs) {i j : Nat} (hij : i < j) (hj : j < all.length) (hb : ((befores all []).getD j 0).testBit i = false) :
    apart all (all.getD i default) (all.getD j default) = true ∧ (fs.getD i default).indep (fs.getD j default) = true := by
  have h1 := List.all_eq_true.1 h.indep j (List.mem_range.2 hj)
  have h2 := List.all_eq_true.1 h1 i (List.mem_range.2 hij)
  rw [hb, Bool.false_or, Bool.and_eq_true] at h2
  exact h2

/-- Operations that may change places do not touch each other. -/
structure Free (all : List Oper) (o o' : Oper) (fp fp' : FP) (e e' : Eff) : Prop where
  apart : Apart e e'
  slot : ∀ t, e'.dst = some t → t ∉ looksAt all o
  obj : ∀ x, x ∈ e'.U → x.1 ∉ fp.rd

theorem Laid.free {all : List Oper} {nid : Nat} {s : List AV × List AObj} {es : List Eff} {fs : List FP} (h : Laid Γ orc all nid s es fs) {i j : Nat} {o o' : Oper} {e e' : Eff} {fp fp' : FP} (hi : all[i]? = some o) (hj : all[j]? = some o')
    (he : es[i]? = some e) (he' : es[j]? = some e') (hf : fs[i]? = some fp) (hf' : fs[j]? = some fp')
    (hij : (i < j ∧ ((befores all []).getD j 0).testBit i = false) ∨ (j < i ∧ ((befores all []).getD i 0).testBit j = false)) : Free all o o' fp fp' e e' := by
  have hil := (List.getElem?_eq_some_iff.1 hi).1
  have hjl := (List.getElem?_eq_some_iff.1 hj).1
  have eff : ∀ {i : Nat} {o : Oper} {e : Eff} {fp : FP}, all[i]? = some o → es[i]? = some e → fs[i]? = some fp → e.dst = o.dst ∧ ∀ x, x ∈ e.U → x.1 ∈ fp.wr := by
    intro i o e fp h1 h2 h3
    obtain ⟨e1, fp1, g1, g2, g3⟩ := h.at_ i o h1
    rw [h2] at g1; rw [h3] at g2
    cases g1; cases g2
    exact dstep_eff g3
  obtain ⟨d1, w1⟩ := eff hi he hf
  obtain ⟨d2, w2⟩ := eff hj he' hf'
  have gi : all.getD i default = o := by simp [List.getD, hi]
  have gj : all.getD j default = o' := by simp [List.getD, hj]
  have fi : fs.getD i default = fp := by simp [List.getD, hf]
  have fj : fs.getD j default = fp' := by simp [List.getD, hf']
  rcases hij with ⟨hlt, hb⟩ | ⟨hlt, hb⟩
  · obtain ⟨p1, p2⟩ := h.pair hlt hjl hb
    rw [gi, gj] at p1
    rw [fi, fj] at p2
    simp only [AI.apart, FP.indep, Bool.and_eq_true, List.all_eq_true, Bool.not_eq_true', Bool.or_eq_false_iff] at p1 p2
    refine ⟨⟨fun d hd => ?_, fun x hx y hy hxy => ?_⟩, fun t ht hl => ?_, fun x hx hr => ?_⟩
    · rw [d1] at hd
      rw [hd] at p1
      rw [d2]
      have := p1.1
      simp only [Bool.and_eq_true, bne_iff_ne] at this
      exact this.2
    · have := (p2.1 x.1 (w1 x hx)).2
      rw [hxy] at this
      simp [w2 y hy] at this
    · rw [d2] at ht
      rw [ht] at p1
      have := p1.2
      simp [hl] at this
    · have := p2.2 x.1 (w2 x hx)
      simp [hr] at this
  · obtain ⟨p1, p2⟩ := h.pair hlt hil hb
    rw [gi, gj] at p1
    rw [fi, fj] at p2
    simp only [AI.apart, FP.indep, Bool.and_eq_true, List.all_eq_true, Bool.not_eq_true', Bool.or_eq_false_iff] at p1 p2
    refine ⟨⟨fun d hd e2 => ?_, fun x hx y hy hxy => ?_⟩, fun t ht hl => ?_, fun x hx hr => ?_⟩
    · rw [d1] at hd
      rw [d2] at e2
      rw [e2] at p1
      have := p1.1
      simp only [Bool.and_eq_true, bne_iff_ne] at this
      exact this.2 hd
    · have := (p2.1 y.1 (w2 y hy)).2
      rw [← hxy] at this
      simp [w1 x hx] at this
    · rw [d2] at ht
      rw [ht] at p1
      have := p1.1
      simp [hl] at this
    · have := (p2.1 x.1 (w2 x hx)).1
      simp [hr] at this

theorem any_ok (hΓ : GamOk P Γ) (hO : OrcsOk P orc) {c : Ctx} {TS : List (Array Value)} {st : ASt} {ops : Array Oper} (hE : edgesOk ops.toList = true) {nid : Nat} {s0 : List AV × List AObj} {es : List Eff} {fs : List FP} (hL : Laid Γ orc ops.toList nid s0 es fs) {Q : Exit → Act → World → Prop}
    (hQ : ∀ a w ρ, StRel c w ρ { st with cur := (es.foldl (fun s e => e.app s) s0).1, heap := (es.foldl (fun s e => e.app s) s0).2 } a TS → Q .normal a w) :
    ∀ (fuel : Nat) (listed : Array Bool) (a : Act) (w : World) (ρ : Rho), listed.size = ops.size → listed.toList.count false ≤ fuel →
      (∀ j, listed.getD j false = true → ∀ i, ((befores ops.toList []).getD j 0).testBit i = true → listed.getD i false = true) →
      StRel c w ρ { st with cur := (foldD es (fun j => listed.getD j false) 0 s0).1, heap := (foldD es (fun j => listed.getD j false) 0 s0).2 } a TS → wpAny P .any ops Q fuel listed a w := by
  have full : ∀ (listed : Array Bool), listed.size = ops.size → Region.ready .any ops listed = [] → ∀ i, i < ops.size → listed.getD i false = true := by
    intro listed hsz hr i
    induction i using Nat.strongRecOn with
    | _ i ih =>
      intro hi
      cases hl : listed.getD i false with
      | true => rfl
      | false =>
        exfalso
        have hin : i ∈ Region.ready .any ops listed := by
          unfold Region.ready
          rw [List.mem_filter]
          refine ⟨List.mem_range.2 hi, ?_⟩
          have hlt : i < listed.size := by omega
          have e1 : listed.getD i true = false := by
            simp only [Array.getD, hlt, dif_pos] at hl ⊢; exact hl
          simp only [e1, Bool.not_false, Bool.true_and, Array.getElem?_eq_getElem hi, Option.map_some, Option.getD_some]
          rw [Array.all_eq_true']
          intro e he
          have hlast : Region.binds .any e = false ∨ e.on < i := by
            unfold edgesOk at hE
            have := List.all_eq_true.1 hE i (List.mem_range.2 (by simpa using hi))
            have e2 : ops.toList.getD i default = ops[i] := by simp [List.getD, hi]
            rw [e2] at this
            have := List.all_eq_true.1 this e (by simpa using he)
            simpa using this
          rcases hlast with hlast | hlast
          · rw [hlast]; rfl
          rw [ih e.on hlast (by omega)]
          simp
        rw [hr] at hin; cases hin
  have done : ∀ (listed : Array Bool) (a : Act) (w : World) (ρ : Rho), listed.size = ops.size → Region.ready .any ops listed = [] →
      StRel c w ρ { st with cur := (foldD es (fun j => listed.getD j false) 0 s0).1, heap := (foldD es (fun j => listed.getD j false) 0 s0).2 } a TS → Q .normal a w := by
    intro listed a w ρ hsz hr h
    refine hQ a w ρ ?_
    have e1 := foldD_all es (fun j => listed.getD j false) 0 s0 (fun j _ hj => full listed hsz hr j (by have := hL.len; simp at this; omega))
    rw [e1] at h
    exact h
  intro fuel
  induction fuel with
  | zero =>
    intro listed a w ρ hsz hcnt hcl h
    have hr : Region.ready .any ops listed = [] := by
      cases hr : Region.ready .any ops listed with
      | nil => rfl
      | cons i r =>
        exfalso
        obtain ⟨o, ho, hl, _⟩ := ready_mem (i := i) (listed := listed) (ops := ops) (by rw [hr]; exact List.mem_cons_self)
        have hi := (Array.getElem?_eq_some_iff.1 ho).1
        have hlt : i < listed.size := by omega
        simp only [Array.getD, hlt, dif_pos] at hl
        have hm : false ∈ listed.toList := by
          rw [← hl]; simp
        have := List.count_pos_iff.2 hm
        omega
    exact ⟨hr, done listed a w ρ hsz hr h⟩
  | succ fuel ih =>
    intro listed a w ρ hsz hcnt hcl h
    refine ⟨fun hr => done listed a w ρ hsz hr h, fun i hi => ?_⟩
    obtain ⟨o, ho, hl, hedge⟩ := ready_mem hi
    have hio : ops.toList[i]? = some o := by simpa using ho
    have hin := (Array.getElem?_eq_some_iff.1 ho).1
    have hlt : i < listed.size := by omega
    have hlf : listed.getD i false = false := by simp only [Array.getD, hlt, dif_pos] at hl ⊢; exact hl
    obtain ⟨e, fp, he, hf, hd⟩ := hL.at_ i o hio
    have hbef : ∀ k, ((befores ops.toList []).getD i 0).testBit k = true → listed.getD k false = true := by
      intro k hk
      obtain ⟨ed, h1, h2, h3⟩ := (befores_spec ops.toList []).2 i o k hio (by simpa using hk)
      rcases h3 with h3 | h3
      · rw [← h3]; exact hedge ed h1 h2
      · exact hcl ed.on (hedge ed h1 h2) k h3
    -- what differs from the text's order does not matter to the operation
    have free : ∀ j e', es[j]? = some e' → (j < i ∧ listed.getD j false = false) ∨ (i < j ∧ listed.getD j false = true) → ∃ o' fp', Free ops.toList o o' fp fp' e e' := by
      intro j e' he' hj
      have hjl : j < ops.toList.length := by have := (List.getElem?_eq_some_iff.1 he').1; have := hL.len; omega
      have hoj := List.getElem?_eq_getElem hjl
      obtain ⟨e2, fp', g1, g2, _⟩ := hL.at_ j _ hoj
      refine ⟨_, fp', hL.free hio hoj he he' hf g2 ?_⟩
      rcases hj with ⟨h1, h2⟩ | ⟨h1, h2⟩
      · refine .inr ⟨h1, ?_⟩
        cases hb : ((befores ops.toList []).getD i 0).testBit j with
        | false => rfl
        | true => rw [hbef j hb] at h2; cases h2
      · refine .inl ⟨h1, ?_⟩
        cases hb : ((befores ops.toList []).getD j 0).testBit i with
        | false => rfl
        | true => rw [hcl j h2 i hb] at hlf; cases hlf
    have agree : ∀ j e', es[j]? = some e' → (∃ t, e'.dst = some t ∧ t ∈ looksAt ops.toList o) ∨ (∃ x, x ∈ e'.U ∧ x.1 ∈ fp.rd) → decide (j < i) = listed.getD j false := by
      intro j e' he' hor
      have no : ¬ ((j < i ∧ listed.getD j false = false) ∨ (i < j ∧ listed.getD j false = true)) := fun hj => by
        obtain ⟨o', fp', hF⟩ := free j e' he' hj
        rcases hor with ⟨t, h1, h2⟩ | ⟨x, h1, h2⟩
        · exact hF.slot t h1 h2
        · exact hF.obj x h1 h2
      rcases Nat.lt_trichotomy j i with h1 | h1 | h1
      · cases hb : listed.getD j false with
        | true => simp [h1]
        | false => exact absurd (.inl ⟨h1, hb⟩) no
      · subst h1; rw [hlf]; simp
      · cases hb : listed.getD j false with
        | false => simp; omega
        | true => exact absurd (.inr ⟨h1, hb⟩) no
    have hd' := dstep_loc (cur' := (foldD es (fun j => listed.getD j false) 0 s0).1) (H' := (foldD es (fun j => listed.getD j false) 0 s0).2) hd
      (fun t ht => foldD_slot es _ _ 0 s0 s0 rfl rfl (fun j e' he' hdt => by rw [Nat.zero_add]; exact agree j e' he' (.inl ⟨t, hdt, ht⟩)))
      (fun n hn => foldD_obj es _ _ 0 s0 s0 rfl rfl (fun j e' he' hx => by
        obtain ⟨x, h1, rfl⟩ := hx
        rw [Nat.zero_add]; exact agree j e' he' (.inr ⟨x, h1, hn⟩)))
      (by rw [(foldD_len _ _ _ _).2, (foldD_len _ _ _ _).2])
    have hget : ∀ j, (listed.setIfInBounds i true).getD j false = (listed.getD j false || j == i) := by
      intro j
      simp only [Array.getD_eq_getD_getElem?, Array.getElem?_setIfInBounds]
      by_cases hji : i = j
      · subst hji; simp [hlt]
      · have : (j == i) = false := by simpa using Ne.symm hji
        simp [hji, this]
    refine dstep_wp (st := { st with cur := _, heap := _ }) hΓ hO rfl ho hd' h (fun a' w' ρ' h' => ih _ a' w' ρ' (by simpa using hsz) ?_ ?_ ?_)
    · rw [Array.toList_setIfInBounds, List.count_set (by simpa using hlt)]
      have e1 : listed.toList[i]'(by simpa using hlt) = false := by
        simp only [Array.getD, hlt, dif_pos] at hlf; simpa using hlf
      rw [e1, if_pos (show (false == false) = true from rfl), if_neg (show ¬ (true == false) = true by decide)]
      omega
    · intro j hj k hk
      rw [hget] at hj ⊢
      rw [Bool.or_eq_true] at hj ⊢
      left
      rcases hj with hj | hj
      · exact hcl j hj k hk
      · have : j = i := by simpa using hj
        subst this
        exact hbef k hk
    · have e2 : foldD es (fun j => (listed.setIfInBounds i true).getD j false) 0 s0 = e.app (foldD es (fun j => listed.getD j false) 0 s0) :=
        foldD_add (k := i) hlf hget es 0 s0 (Nat.zero_le _) (by simpa using he) (fun j e' he' hlt hDj => by
          rw [Nat.zero_add] at hlt hDj
          obtain ⟨_, _, hF⟩ := free j e' he' (.inr ⟨hlt, hDj⟩)
          exact hF.apart)
      rw [e2]
      exact h'

theorem drawn_ok (hm : P.follows .mixedOrders = true) (hΓ : GamOk P Γ) (hO : OrcsOk P orc) : DrawnOk P Γ orc := by
  intro R id ops c w ρ st a TS k r Q hE hx h hn
  obtain ⟨es, fs, hT, hk⟩ := xopsD_trace _ _ _ _ _ hx
  obtain ⟨hi, hk⟩ := ite_some hk
  obtain ⟨l1, _, hat⟩ := trace_get hT
  have hL : Laid Γ orc ops.toList st.heap.length (st.cur, pad orc ops.toList st.heap) es fs := ⟨l1, fun i o hi => by
    obtain ⟨e, fp, g1, g2, g3⟩ := hat i o hi
    have := g3 0
    simp only [Nat.zero_add] at this
    exact ⟨e, fp, g1, g2, this⟩, by simpa using hi⟩
  have h1 := h.heap (Tr.pad h.ok (makesAll orc ops.toList))
  have h2 : StRel c w.drew ρ { st with heap := pad orc ops.toList st.heap } a TS := h1.heap (Tr.drew h1.ok)
  refine wp_region_any hm (any_ok (st := st) hΓ hO hE hL (fun a w ρ h' => hn _ a w ρ hk h') ops.size _ a _ ρ (by simp) (by simp) (fun j hj => ?_) ?_)
  · simp [Array.getD_eq_getD_getElem?, Array.getElem?_replicate] at hj
    split at hj <;> simp at hj
  · rw [foldD_none es _ 0 _ (fun j _ => by simp only [Array.getD_eq_getD_getElem?, Array.getElem?_replicate]; split <;> rfl)]
    exact h2
end
end Go.AI
