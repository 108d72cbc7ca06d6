/- The state at a loop's head, seen in another way. -/
import Derived.Test.YtadpmbipdafjiaaWalk
namespace Go.AI
open Go Go.RowKit

section
variable {P : Program} {Γ : Gam} {c : Ctx} {w w' : World} {H H' : List AObj} {ρ ρ' : Rho} {st : ASt} {a : Act} {TS : List (Array Value)} {f : Nat → Option Nat}

theorem rename_lay : ∀ v : AV, (v.rename f).lay = v.lay
  | .row o => by simp only [AV.rename]; split <;> rfl
  | .sl o _ _ => by simp only [AV.rename]; split <;> rfl
  | .ptr o _ => by simp only [AV.rename]; split <;> rfl
  | .pr a b => by simp only [AV.rename, AV.lay, rename_lay a, rename_lay b]
  | .fn _ _ => rfl
  | .tup _ => rfl
  | .dat _ _ => rfl
  | .slx _ _ => rfl
  | .nils => rfl
  | .emp => rfl
  | .vptr _ _ => rfl
  | .un => rfl
  | .nilfn => rfl
  | .dead => rfl
theorem rename_agg (v : AV) : (v.rename f).agg = v.agg := by rw [← AV.lay_agg, ← AV.lay_agg, rename_lay]

theorem rename_elems (ob : AObj) : (ob.rename f).elems = ob.elems := by
  cases ob with
  | box v =>
    cases v <;> simp only [AObj.rename, AV.rename] <;> first | rfl | (split <;> rfl)
  | _ => rfl
theorem rename_live (ob : AObj) : (ob.rename f).live = ob.live := by cases ob <;> rfl
theorem rename_mut (ob : AObj) : (ob.rename f).mut = ob.mut := by cases ob <;> rfl
theorem rename_obj_lay (ob : AObj) : (ob.rename f).lay = ob.lay := by
  cases ob <;> first | rfl | exact rename_lay _

/-- Objects that have new numbers. -/
structure Moved (f : Nat → Option Nat) (H : List AObj) (ρ : Rho) (H' : List AObj) (ρ' : Rho) (L : Nat → Prop) : Prop where
  to : ∀ o, L o → ∃ i, f o = some i ∧ ASt.obj H' i = (ASt.obj H o).rename f ∧ ρ' i = ρ o

variable {L : Nat → Prop}

theorem rename_stands (hm : Moved f H ρ H' ρ' L) : ∀ (v : AV), (∀ o, o ∈ v.refs → L o) → (v.rename f).stands = v.stands
  | .row o, h => by obtain ⟨i, e, _⟩ := hm.to o (h o (by simp [AV.refs])); simp [AV.rename, e, AV.stands]
  | .sl o _ _, h => by obtain ⟨i, e, _⟩ := hm.to o (h o (by simp [AV.refs])); simp [AV.rename, e, AV.stands]
  | .ptr o _, h => by obtain ⟨i, e, _⟩ := hm.to o (h o (by simp [AV.refs])); simp [AV.rename, e, AV.stands]
  | .pr a b, h => by simp only [AV.rename, AV.stands, rename_stands hm a (fun o ho => h o (by simp [AV.refs, ho])), rename_stands hm b (fun o ho => h o (by simp [AV.refs, ho]))]
  | .fn _ _, _ => rfl
  | .tup _, _ => rfl
  | .dat _ _, _ => rfl
  | .slx _ _, _ => rfl
  | .nils, _ => rfl
  | .emp, _ => rfl
  | .vptr _ _, _ => rfl
  | .un, _ => rfl
  | .nilfn, _ => rfl
  | .dead, _ => rfl

theorem SlR.rename (hm : Moved f H ρ H' ρ' L) {o i off : Nat} {len : Option Nat} {cs : List Value} (hi : ASt.obj H' i = (ASt.obj H o).rename f) (hr : ρ' i = ρ o) (h : SlR H ρ o off len cs) : SlR H' ρ' i off len cs := by
  have _ := hm
  obtain ⟨h0, h⟩ := h
  refine ⟨?_, ?_⟩
  · rw [hi]
    cases hob : ASt.obj H o <;> simp_all [AObj.rename]
  · rw [hi, rename_elems, hr]; exact h

theorem RX.rename (hm : Moved f H ρ H' ρ' L) {A A' : Nat → Prop} (hA : ∀ b, A' b → A b) : ∀ (v : AV) (m : Bool) {cs : List Value}, (∀ o, o ∈ v.refs → L o) → RX w A H ρ v m cs → RX w A' H' ρ' (v.rename f) m cs
  | .dat s x, true, cs, _, h => RepC.keeps (Keeps.refl _ _) (fun b _ hb => hA b hb) s h
  | .slx s xs, true, cs, _, h => by
    obtain ⟨a, e, h⟩ := h
    exact ⟨a, e, RepC.keeps (Keeps.refl _ _) (fun b _ hb => hA b hb) (.slc s) h⟩
  | .nils, true, cs, _, h => h
  | .emp, true, cs, _, h => h
  | .row o, true, cs, hl, h => by
    obtain ⟨i, e, h1, h2⟩ := hm.to o (hl o (by simp [AV.refs]))
    simp only [AV.rename, e]
    exact SlR.rename hm h1 h2 (h : SlR H ρ o 0 none cs)
  | .sl o off len, true, cs, hl, h => by
    obtain ⟨i, e, h1, h2⟩ := hm.to o (hl o (by simp [AV.refs]))
    simp only [AV.rename, e]
    exact SlR.rename hm h1 h2 (h : SlR H ρ o off (some len) cs)
  | .vptr s x, true, cs, _, h => by
    obtain ⟨ad, L, e, hb, hn, hr, hcl⟩ := h
    exact ⟨ad, L, e, hb, fun h => hn (hA _ h), RepC.keeps (Keeps.refl _ _) (fun b _ hb => hA b hb) s hr, hcl⟩
  | .ptr o p, true, cs, hl, h => by
    obtain ⟨i, e, h1, h2⟩ := hm.to o (hl o (by simp [AV.refs]))
    simp only [AV.rename, e]
    show PtrR (ASt.obj H' i) (ρ' i) p cs
    rw [h1, h2]
    rcases (h : PtrR (ASt.obj H o) (ρ o) p cs) with ⟨hg, hx⟩ | ⟨hlv, g, C, off, l, hlay, hr, hcs⟩
    · exact .inl ⟨by rw [hg]; rfl, hx⟩
    · exact .inr ⟨by rw [rename_live]; exact hlv, g, C, off, l, by rw [rename_obj_lay]; exact hlay, hr, hcs⟩
  | .pr a b, true, cs, hl, h => by
    obtain ⟨c, r, e, h1, h2⟩ := h
    exact ⟨c, r, e, RX.rename hm hA a true (fun o ho => hl o (by simp [AV.refs, ho])) h1, RX.rename hm hA b true (fun o ho => hl o (by simp [AV.refs, ho])) h2⟩
  | .un, true, cs, _, h => h
  | .fn g cp, true, cs, hl, h => by
    obtain ⟨vs, e, h⟩ := h
    exact ⟨vs, e, RX.rename hm hA cp false (fun o ho => hl o ho) h⟩
  | .nilfn, true, cs, _, h => h
  | .tup a, true, cs, _, h => h.elim
  | .dead, true, cs, _, h => h.elim
  | .pr a b, false, cs, hl, h => by
    obtain ⟨v, r, e, h1, h2⟩ := h
    refine ⟨v, r, e, ?_, RX.rename hm hA b false (fun o ho => hl o (by simp [AV.refs, ho])) h2⟩
    have hla : ∀ o, o ∈ a.refs → L o := fun o ho => hl o (by simp [AV.refs, ho])
    have key : a.agg = false → RX w A H ρ a true [v] → RV1 (RX w A' H' ρ' (a.rename f)) (a.rename f) v := by
      intro hag hr
      exact (RV.one (by rw [rename_agg]; exact hag) (RX.rename hm hA a true hla hr)).rv1 (by
        cases ht : (a.rename f).isTup with
        | false => rfl
        | true =>
          exfalso
          have hr2 := RX.rename hm hA a true hla hr
          cases hz : a.rename f <;> rw [hz] at ht hr2 <;> first | exact (hr2 : False).elim | (simp [AV.isTup] at ht))
    unfold RV1 at h1
    split at h1
    · exact trivial
    · exact h1.elim
    · split at h1
      · rename_i hag
        obtain ⟨cs, e1, h1⟩ := h1
        have hr2 := RX.rename hm hA a true hla h1
        unfold RV1
        split
        · trivial
        · rename_i ee
          rw [ee] at hr2
          exact (hr2 : False).elim
        · rw [if_pos (by rw [rename_agg]; exact hag)]
          exact ⟨cs, e1, hr2⟩
      · rename_i hag
        exact key (by simpa using hag) h1
  | .un, false, cs, _, h => h
  | .dat _ _, false, cs, _, h => h.elim
  | .slx _ _, false, cs, _, h => h.elim
  | .nils, false, cs, _, h => h.elim
  | .emp, false, cs, _, h => h.elim
  | .row _, false, cs, _, h => h.elim
  | .sl _ _ _, false, cs, _, h => h.elim
  | .vptr _ _, false, cs, _, h => h.elim
  | .ptr _ _, false, cs, _, h => h.elim
  | .fn _ _, false, cs, _, h => h.elim
  | .nilfn, false, cs, _, h => h.elim
  | .tup _, false, cs, _, h => h.elim
  | .dead, false, cs, _, h => h.elim

theorem RV.rename (hm : Moved f H ρ H' ρ' L) {A A' : Nat → Prop} (hA : ∀ b, A' b → A b) {v : AV} {u : Value} (hl : ∀ o, o ∈ v.refs → L o) (h : RV w A H ρ v u) : RV w A' H' ρ' (v.rename f) u := by
  unfold RV at h
  split at h
  · rename_i b
    obtain ⟨vs, e, h⟩ := h
    exact ⟨vs, e, RX.rename hm hA b false hl h⟩
  · have h' : RX w A H ρ (.pr v .un) false [u] := ⟨u, [], rfl, h, rfl⟩
    obtain ⟨u', r, e, h1, _⟩ := RX.rename hm hA (.pr v .un) false (fun o ho => hl o (by simpa [AV.refs] using ho)) h'
    cases e
    exact h1.rv

theorem nodupB_ok : ∀ {l : List Nat}, nodupB l = true → l.Nodup
  | [], _ => List.nodup_nil
  | x :: l, h => by
    simp only [nodupB, Bool.and_eq_true, Bool.not_eq_true'] at h
    exact List.nodup_cons.2 ⟨by simpa using h.1, nodupB_ok h.2⟩

theorem canon_ok (h : StRel c w ρ st a TS) : ∃ ρ', StRel c w ρ' st.canon a TS := by
  unfold ASt.canon
  simp only
  generalize hroots : st.cur.flatMap AV.refs ++ (st.stk.flatMap fun f => f.flatMap AV.refs) = roots
  generalize reach st.heap (roots.length + 16 * st.heap.length + 16) roots [] = l
  split
  · rename_i hcond
    simp only [Bool.and_eq_true] at hcond
    obtain ⟨⟨hnd, hroot⟩, hclosed⟩ := hcond
    have hnd := nodupB_ok hnd
    have hroot : ∀ o, o ∈ roots → o ∈ l := fun o ho => by simpa using List.all_eq_true.1 hroot o ho
    have hclosed : ∀ o, o ∈ l → ∀ o', o' ∈ (ASt.obj st.heap o).refs → o' ∈ l := fun o ho o' ho' => by simpa using List.all_eq_true.1 (List.all_eq_true.1 hclosed o ho) o' ho'
    let H' := l.map fun o => (ASt.obj st.heap o).rename (findIx l)
    let ρ' : Rho := fun i => (l[i]?).bind ρ
    have hobj : ∀ i o, l[i]? = some o → ASt.obj H' i = (ASt.obj st.heap o).rename (findIx l) := fun i o hi => by
      simp only [H', ASt.obj, List.getD, List.getElem?_map, hi]; rfl
    have hobjn : ∀ i, l[i]? = none → ASt.obj H' i = .free := fun i hi => by
      simp only [H', ASt.obj, List.getD, List.getElem?_map, hi]; rfl
    have hm : Moved (findIx l) st.heap ρ H' ρ' (· ∈ l) := by
      refine ⟨fun o ho => ?_⟩
      cases hi : findIx l o with
      | none =>
        simp only [findIx, List.idxOf?] at hi
        rw [List.findIdx?_eq_none_iff] at hi
        have := hi o ho
        simp at this
      | some i =>
        have hio : l[i]? = some o := by
          simp only [findIx, List.idxOf?] at hi
          obtain ⟨hlt, hp, _⟩ := List.findIdx?_eq_some_iff_getElem.1 hi
          rw [List.getElem?_eq_getElem hlt]
          simpa using hp
        exact ⟨i, rfl, hobj i o hio, by simp only [ρ', hio]; rfl⟩
    have hA : ∀ b, Avoid c.X H' ρ' b → Avoid c.X st.heap ρ b := by
      rintro b (hx | ⟨i, C, hmut, hr⟩)
      · exact .inl hx
      · cases hi : l[i]? with
        | none => rw [hobjn i hi] at hmut; cases hmut
        | some o =>
          rw [hobj i o hi, rename_mut] at hmut
          simp only [ρ', hi, Option.bind_some] at hr
          exact .inr ⟨o, C, hmut, hr⟩
    have hfr : ∀ (cur : List AV) (t : Array Value), (∀ v, v ∈ cur → ∀ o, o ∈ v.refs → o ∈ l) → FrOk w (Avoid c.X st.heap ρ) st.heap ρ cur t → FrOk w (Avoid c.X H' ρ') H' ρ' (cur.map (AV.rename (findIx l))) t := by
      intro cur t hc hf
      refine ⟨by rw [List.length_map]; exact hf.size, fun i => ?_⟩
      have := hf.at_ i
      simp only [List.getD, List.getElem?_map] at this ⊢
      cases hi : cur[i]? with
      | none => exact trivial
      | some v =>
        rw [hi] at this
        exact RV.rename hm hA (hc v (List.mem_of_getElem? hi)) this
    refine ⟨ρ', ⟨fun i => ?_, fun i j g C C' hl hl' hr hr' => ?_, h.ok.fr, h.ok.old⟩, hfr _ _ (fun v hv o ho => hroot o ?_) h.cur, ?_, h.defers⟩
    · show ObjOk c w (Avoid c.X H' ρ') H' ρ' i (ASt.obj H' i)
      cases hi : l[i]? with
      | none => rw [hobjn i hi]; trivial
      | some o =>
        rw [hobj i o hi]
        have hob := h.ok.obj o
        have hρ : ρ' i = ρ o := by simp only [ρ', hi]; rfl
        have hrefs := hclosed o (List.mem_of_getElem? hi)
        cases hoo : ASt.obj st.heap o with
        | gone => trivial
        | free => trivial
        | row E s xs fz =>
          rw [hoo] at hob
          rcases hob with ⟨h1, h2⟩ | ⟨g, C, h1, h2, h3⟩
          · exact .inl ⟨hρ.trans h1, h2⟩
          · exact .inr ⟨g, C, hρ.trans h1, h2, h3.mono (Keeps.refl _ _) (fun b _ hb => hA b hb) rfl⟩
        | box v =>
          rw [hoo] at hob hrefs
          obtain ⟨g, C, E, cur, h1, h2, h3, h4, h5, h6⟩ := hob
          refine ⟨g, C, E, cur, hρ.trans h1, h2, h3, RX.rename hm hA v true hrefs h4, by rw [rename_stands hm v hrefs]; exact h5, fun e he => h6 e ?_⟩
          have := rename_elems (f := findIx l) (.box v)
          rw [← this]; exact he
    · have key : ∀ i g C, (ASt.obj H' i).live = true → ρ' i = some (g, C) → ∃ o, l[i]? = some o ∧ (ASt.obj st.heap o).live = true ∧ ρ o = some (g, C) := by
        intro i g C hl hr
        cases hi : l[i]? with
        | none => rw [hobjn i hi] at hl; cases hl
        | some o =>
          rw [hobj i o hi, rename_live] at hl
          simp only [ρ', hi, Option.bind_some] at hr
          exact ⟨o, rfl, hl, hr⟩
      obtain ⟨o, h1, h2, h3⟩ := key i g C hl hr
      obtain ⟨o', k1, k2, k3⟩ := key j g C' hl' hr'
      have := h.ok.inj o o' g C C' h2 k2 h3 k3
      subst this
      have hlt := (List.getElem?_eq_some_iff.1 h1).1
      exact (List.getElem?_inj hlt hnd).1 (h1.trans k1.symm)
    · rw [← hroots]
      exact List.mem_append_left _ (List.mem_flatMap.2 ⟨v, hv, ho⟩)
    · have : ∀ (fs : List (List AV)) (ts : List (Array Value)), (∀ g, g ∈ fs → ∀ v, v ∈ g → ∀ o, o ∈ v.refs → o ∈ l) → StkOk w (Avoid c.X st.heap ρ) st.heap ρ fs ts → StkOk w (Avoid c.X H' ρ') H' ρ' (fs.map (·.map (AV.rename (findIx l)))) ts := by
        intro fs
        induction fs with
        | nil => intro ts _ hs; exact hs
        | cons g fs ih =>
          intro ts hg hs
          obtain ⟨t, r, e, h1, h2⟩ := hs
          exact ⟨t, r, e, hfr g t (hg g List.mem_cons_self) h1, ih r (fun g hg' => hg g (List.mem_cons_of_mem _ hg')) h2⟩
      exact this st.stk TS (fun g hg v hv o ho => hroot o (by
        rw [← hroots]
        exact List.mem_append_right _ (List.mem_flatMap.2 ⟨g, hg, List.mem_flatMap.2 ⟨v, hv, ho⟩⟩))) h.stk
  · exact ⟨ρ, h⟩

theorem keep_fr {A : Nat → Prop} {f : List AV} {t : Array Value} (h : FrOk w A st.heap ρ f t) (ks : List Nat) : FrOk w A st.heap ρ (keepOnly ks f) t := by
  refine ⟨?_, fun i => ?_⟩
  · simp only [keepOnly, List.length_map, List.length_zipIdx]; exact h.size
  · have := h.at_ i
    simp only [keepOnly, List.getD, List.getElem?_map, List.getElem?_zipIdx] at this ⊢
    cases hi : f[i]? with
    | none => exact trivial
    | some v =>
      rw [hi] at this
      simp only [Option.map_some, Option.getD_some, Nat.zero_add] at this ⊢
      split
      · exact this
      · exact trivial
theorem keep_stk {A : Nat → Prop} : ∀ (kss : List (List Nat)) {fs : List (List AV)} {ts : List (Array Value)}, StkOk w A st.heap ρ fs ts → StkOk w A st.heap ρ (keepStk kss fs) ts
  | [], fs, ts, h => by cases fs <;> exact h
  | ks :: kss, [], ts, h => h
  | ks :: kss, f :: fs, ts, ⟨t, r, e, h1, h2⟩ => ⟨t, r, e, keep_fr h1 ks, keep_stk kss h2⟩
theorem keep_ok (h : StRel c w ρ st a TS) (ks : List Nat) (kss : List (List Nat)) : StRel c w ρ { st with cur := keepOnly ks st.cur, stk := keepStk kss st.stk } a TS :=
  ⟨h.ok, keep_fr h.cur ks, keep_stk kss h.stk, h.defers⟩

theorem own_one (h : StRel c w ρ st a TS) {i : Nat} {E : TypeId} {s : Sch} (hv : st.cur.getD i .dead = .nils ∨ st.cur.getD i .dead = .emp) :
    StRel c w (updR ρ st.heap.length none) { st with cur := st.cur.set i (.row st.heap.length), heap := st.heap ++ [.row E s [] false] } a TS := by
  have T1 := Tr.pad h.ok 1
  have e1 : (st.heap ++ List.replicate 1 AObj.free).set st.heap.length (.row E s [] false) = st.heap ++ [.row E s [] false] := by simp
  have T2 := Tr.nothing T1.ok (n := st.heap.length) (by simp) (by rw [obj_pad]; exact obj_of_ge (Nat.le_refl _)) E s
  rw [e1] at T2
  have T := T1.trans T2
  have hnew : ASt.obj (st.heap ++ [AObj.row E s [] false]) st.heap.length = .row E s [] false := by simp [ASt.obj, List.getD]
  have hf := h.cur.mono (fun _ _ => T.rv)
  refine ⟨T.ok, ⟨by rw [List.length_set]; exact hf.size, fun j => ?_⟩, h.stk.mono fun _ _ => T.rv, h.defers⟩
  by_cases hj : i = j
  · subst hj
    have := h.cur.at_ i
    by_cases hlt : i < st.cur.length
    · have e : (st.cur.set i (.row st.heap.length)).getD i .dead = .row st.heap.length := by simp [List.getD, hlt]
      rw [e]
      have : ∃ ad, a.tmps.getD i undef = .slice ad 0 0 := by
        rcases hv with hv | hv
        · rw [hv] at this
          have : [a.tmps.getD i undef] = [Value.slice none 0 0] := this
          exact ⟨none, by simpa using this⟩
        · rw [hv] at this
          obtain ⟨ad, this⟩ := (this : ∃ ad, [a.tmps.getD i undef] = [Value.slice ad 0 0])
          exact ⟨ad, by simpa using this⟩
      obtain ⟨ad, e2⟩ := this
      rw [e2]
      exact rv_row_none hnew (updR_same _ _) ad
    · have e : st.cur.set i (.row st.heap.length) = st.cur := List.set_eq_of_length_le (by omega)
      rw [e]; exact hf.at_ i
  · have e : (st.cur.set i (.row st.heap.length)).getD j .dead = st.cur.getD j .dead := by simp [List.getD, List.getElem?_set_ne hj]
    rw [e]; exact hf.at_ j

theorem own_ok : ∀ (l : List (Nat × TypeId)) {st : ASt} {ρ : Rho}, StRel c w ρ st a TS → ∃ ρ', StRel c w ρ' (ownSlots Γ l st) a TS
  | [], st, ρ, h => ⟨ρ, h⟩
  | (i, t) :: l, st, ρ, h => by
    simp only [ownSlots]
    split
    · rename_i hv _
      exact own_ok l (own_one h (.inl hv))
    · rename_i hv _
      exact own_ok l (own_one h (.inr hv))
    · exact own_ok l h

theorem dat_one (h : StRel c w ρ st a TS) {i : Nat} {s : Sch} {y : s.T} {U : Upd} (hp : asPlain st.heap s (st.cur.getD i .dead) = some (y, U)) :
    StRel c w ρ { st with cur := st.cur.set i (.dat s y), heap := upd st.heap U } a TS := by
  unfold asPlain at hp
  cases hx : toDat false st.heap s (st.cur.getD i .dead) with
  | none => rw [hx] at hp; cases hp
  | some x =>
    rw [hx] at hp
    simp only [Option.map_some, Option.some.injEq, Prod.mk.injEq] at hp
    obtain ⟨rfl, rfl⟩ := hp
    obtain ⟨a1, _, a3, a4, _⟩ := Tr.freezes h.ok (st.cur.getD i .dead).refs st.heap h.ok (fun _ => rfl)
    have hv := toDat_rv (H' := upd st.heap (freezes st.heap (st.cur.getD i .dead))) (ρ' := ρ) h.ok (h.cur.at_ i) hx (lets_frozen h.ok (toDat_rows _ s hx) a1 (fun o ho => a4 o (.inl ho)) (avoid_freezes a3 (fun o ho => a4 o (.inl ho))))
    have h' := h.heap a1
    refine ⟨h'.ok, ⟨by rw [List.length_set]; exact h'.cur.size, fun j => ?_⟩, h'.stk, h'.defers⟩
    by_cases hj : i = j
    · subst hj
      by_cases hlt : i < st.cur.length
      · have e : (st.cur.set i (.dat s x)).getD i .dead = .dat s x := by simp [List.getD, hlt]
        rw [e]; exact hv
      · have e : st.cur.set i (.dat s x) = st.cur := List.set_eq_of_length_le (by omega)
        rw [e]; exact h'.cur.at_ i
    · have e : (st.cur.set i (.dat s x)).getD j .dead = st.cur.getD j .dead := by simp [List.getD, List.getElem?_set_ne hj]
      rw [e]; exact h'.cur.at_ j
theorem dat_ok : ∀ (l : List (Nat × TypeId)) {st : ASt}, StRel c w ρ st a TS → StRel c w ρ (datSlots Γ l st) a TS
  | [], st, h => h
  | (i, t) :: l, st, h => by
    simp only [datSlots]
    split
    · split
      · rename_i hp
        exact dat_ok l (dat_one h hp)
      · exact dat_ok l h
    · exact dat_ok l h

theorem head_ok (ks : List Nat) (hint : Hint) : HeadOk (atHead Γ ks hint) := by
  intro c w ρ st a TS h
  obtain ⟨ρ1, h1⟩ := own_ok (Γ := Γ) hint.own (dat_ok (Γ := Γ) hint.dat (keep_ok h ks hint.stk))
  exact canon_ok h1
end
end Go.AI
