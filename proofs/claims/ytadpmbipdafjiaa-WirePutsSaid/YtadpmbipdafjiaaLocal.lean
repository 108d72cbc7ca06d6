/- What an operation looks at. -/
import Derived.Test.YtadpmbipdafjiaaFn
namespace Go.AI
open Go Go.RowKit

/-- Two heaps hold the same at some places. -/
def SameAt (H H' : List AObj) (l : List Nat) : Prop := ∀ n, n ∈ l → ASt.obj H n = ASt.obj H' n

section
variable {Γ : Gam} {H H' : List AObj} {cur cur' : List AV} {nid : Nat}

theorem SameAt.mono {l l' : List Nat} (h : SameAt H H' l) (hl : ∀ n, n ∈ l' → n ∈ l) : SameAt H H' l' := fun n hn => h n (hl n hn)

theorem elemsOf_loc {v : AV} (h : SameAt H H' v.refs) : elemsOf H v = elemsOf H' v := by
  cases v with
  | row o => simp only [elemsOf, h o (by simp [AV.refs])]
  | sl o i n => simp only [elemsOf, h o (by simp [AV.refs])]
  | dat s x => cases s <;> rfl
  | _ => rfl
theorem elemsAs_loc {s : Sch} {v : AV} (h : SameAt H H' v.refs) : elemsAs H s v = elemsAs H' s v := by
  have := elemsOf_loc h
  cases v <;> simp only [elemsAs, this]
theorem srcElems_loc {s : Sch} {v : AV} (h : SameAt H H' v.refs) : srcElems H s v = srcElems H' s v := by
  unfold srcElems
  split
  · exact elemsAs_loc (fun n hn => by simp [AV.refs] at hn)
  · exact elemsAs_loc h
theorem lenOf_loc {v : AV} (h : SameAt H H' v.refs) : lenOf H v = lenOf H' v := by
  have := elemsOf_loc h
  cases v with
  | sl o i n => simp only [lenOf, h o (by simp [AV.refs])]
  | dat s x => cases s <;> simp only [lenOf, this]
  | _ => simp only [lenOf, this]
theorem toDat_loc (b : Bool) : ∀ (v : AV) (s : Sch), SameAt H H' v.refs → toDat b H s v = toDat b H' s v := by
  intro v
  induction v with
  | row o =>
    intro s h
    cases s <;> simp only [toDat]
    rw [h o (by simp [AV.refs]), elemsAs_loc (v := .row o) h]
  | sl o i n =>
    intro s h
    cases s <;> simp only [toDat]
    rw [h o (by simp [AV.refs]), elemsAs_loc (v := .sl o i n) h]
  | pr a c iha ihc =>
    intro s h
    cases s <;> simp only [toDat]
    rw [iha _ (h.mono fun n hn => by simp [AV.refs, hn]), ihc _ (h.mono fun n hn => by simp [AV.refs, hn])]
  | dat t x => intro s h; simp only [toDat]
  | _ => intro s h; cases s <;> simp only [toDat]
theorem freezes_loc {v : AV} (h : SameAt H H' v.refs) : freezes H v = freezes H' v := by
  unfold freezes
  apply List.map_congr_left
  intro o ho
  rw [h o ho]
theorem asPlain_loc {s : Sch} {v : AV} (h : SameAt H H' v.refs) : asPlain H s v = asPlain H' s v := by
  unfold asPlain
  rw [toDat_loc false v s h, freezes_loc h]
theorem newObj_loc {n : Nat} {ob : AObj} (h : ASt.obj H n = ASt.obj H' n) (hl : H.length = H'.length) : newObj? H n ob = newObj? H' n ob := by
  unfold newObj?
  rw [h, hl]

/-- The objects that some operands name. -/
def refsOf (cur : List AV) (l : List Operand) : List Nat := l.flatMap fun x => (opnd cur x).refs

theorem refsOf_mem {l : List Operand} {x : Operand} (hx : x ∈ l) {n : Nat} (hn : n ∈ (opnd cur x).refs) : n ∈ refsOf cur l := List.mem_flatMap.2 ⟨x, hx, hn⟩

theorem bldSlice_loc (s : Sch) : ∀ (parts : List (Nat × Operand)) (xs : List s.T) (U : Upd), (∀ x, x ∈ parts.map (·.2) → opnd cur x = opnd cur' x) → SameAt H H' (refsOf cur (parts.map (·.2))) → bldSlice s cur H parts xs U = bldSlice s cur' H' parts xs U
  | [], _, _, _, _ => rfl
  | (i, x) :: r, xs, U, hc, h => by
    have hx := hc x (by simp)
    simp only [bldSlice, ← hx]
    rw [asPlain_loc (H := H) (H' := H') (h.mono fun n hn => refsOf_mem (x := x) (by simp) hn)]
    cases asPlain H' s (opnd cur x) with
    | none => rfl
    | some y =>
      obtain ⟨y, V⟩ := y
      simp only
      split
      · exact bldSlice_loc s r _ _ (fun z hz => hc z (by simp at hz ⊢; exact .inr hz)) (h.mono fun n hn => by
          obtain ⟨z, hz, hn⟩ := List.mem_flatMap.1 hn
          exact refsOf_mem (x := z) (by simp at hz ⊢; exact .inr hz) hn)
      · rfl
theorem bldStruct_loc (fs : List (Nat × TypeId)) : ∀ (parts : List (Nat × Operand)) (v : AV), (∀ x, x ∈ parts.map (·.2) → opnd cur x = opnd cur' x) → bldStruct Γ cur fs parts v = bldStruct Γ cur' fs parts v
  | [], _, _ => rfl
  | (k, x) :: r, v, hc => by
    have hx := hc x (by simp)
    simp only [bldStruct, ← hx]
    have ih := fun v => bldStruct_loc fs r v (fun z hz => hc z (by simp at hz ⊢; exact .inr hz))
    have : bldStruct Γ cur fs r = bldStruct Γ cur' fs r := funext ih
    rw [this]

theorem aAppend_loc {t : TypeId} {x y : AV} (hx : SameAt H H' x.refs) (hy : SameAt H H' y.refs) (hn : ASt.obj H nid = ASt.obj H' nid) (hl : H.length = H'.length) : aAppend Γ t x y H nid = aAppend Γ t x y H' nid := by
  unfold aAppend
  cases Γ.elem t with
  | none => rfl
  | some es =>
    obtain ⟨E, s⟩ := es
    simp only
    rw [srcElems_loc hy]
    cases srcElems H' s y with
    | none => rfl
    | some ys =>
      simp only
      have hnew : ∀ ob, newObj? H nid ob = newObj? H' nid ob := fun ob => newObj_loc hn hl
      cases x with
      | row o =>
        simp only [hx o (by simp [AV.refs]), hnew]
      | _ => simp only [hnew]
theorem aCopy_loc {t : TypeId} {x y : AV} (hx : SameAt H H' x.refs) (hy : SameAt H H' y.refs) : aCopy Γ t x y H = aCopy Γ t x y H' := by
  unfold aCopy
  cases Γ.elem t with
  | none => rfl
  | some es =>
    obtain ⟨E, s⟩ := es
    simp only
    rw [srcElems_loc hy]
    cases srcElems H' s y with
    | none => rfl
    | some ys =>
      cases x with
      | row o => simp only [hx o (by simp [AV.refs])]
      | sl o i n => simp only [hx o (by simp [AV.refs])]
      | _ => rfl
theorem aLoad_loc {t : TypeId} {x : AV} (hx : SameAt H H' x.refs) : aLoad Γ t x H = aLoad Γ t x H' := by
  cases x with
  | ptr o p => simp only [aLoad, hx o (by simp [AV.refs])]
  | _ => rfl
theorem aStore_loc {t : TypeId} {x u : AV} (hx : SameAt H H' x.refs) (hu : SameAt H H' u.refs) : aStore Γ t x u H = aStore Γ t x u H' := by
  cases x with
  | ptr o p => simp only [aStore, hx o (by simp [AV.refs]), asPlain_loc hu]
  | _ => rfl
theorem aIndexAddr_loc {t : TypeId} {x i : AV} (hx : SameAt H H' x.refs) : aIndexAddr Γ t x i H = aIndexAddr Γ t x i H' := by
  cases x with
  | ptr o p => simp only [aIndexAddr, hx o (by simp [AV.refs])]
  | row o => simp only [aIndexAddr, hx o (by simp [AV.refs])]
  | sl o a n => simp only [aIndexAddr, hx o (by simp [AV.refs])]
  | dat s x => cases s <;> simp only [aIndexAddr]
  | vptr s x => cases s <;> simp only [aIndexAddr]
  | _ => rfl
theorem aFieldAddr_loc {t : TypeId} {x : AV} {f : Nat} (hx : SameAt H H' x.refs) : aFieldAddr Γ t x f H = aFieldAddr Γ t x f H' := by
  cases x with
  | ptr o p => simp only [aFieldAddr, hx o (by simp [AV.refs])]
  | _ => rfl
theorem aConvert_loc {s d : TypeId} {x : AV} (hx : SameAt H H' x.refs) (hn : ASt.obj H nid = ASt.obj H' nid) (hl : H.length = H'.length) : aConvert Γ s d x H nid = aConvert Γ s d x H' nid := by
  have hnew : ∀ ob, newObj? H nid ob = newObj? H' nid ob := fun ob => newObj_loc hn hl
  have he := fun s => elemsAs_loc (s := s) hx
  unfold aConvert
  cases Γ.at_ d with
  | none => rfl
  | some td =>
    simp only
    split
    · rfl
    · split
      · rfl
      · rfl
      · simp only [hnew]
      · rename_i o _
        rw [hx o (by simp [AV.refs])]
      · simp only [he]
      · rfl
theorem aSlice_loc {t : TypeId} {x : AV} {lo hi mx : Option AV} (hx : SameAt H H' x.refs) : aSlice Γ H t x lo hi mx = aSlice Γ H' t x lo hi mx := by
  cases x with
  | row o => simp only [aSlice, hx o (by simp [AV.refs])]
  | sl o a n => simp only [aSlice, hx o (by simp [AV.refs])]
  | dat s x => cases s <;> simp only [aSlice]
  | _ => rfl

theorem aSliceX_loc {t : TypeId} {x : AV} {lo hi mx : Option AV} (hx : SameAt H H' x.refs) : aSliceX Γ H t x lo hi mx = aSliceX Γ H' t x lo hi mx := by
  unfold aSliceX
  cases mx with
  | some m => rfl
  | none =>
    simp only
    split
    · rename_i o
      simp only [aSliceA, hx o (by simp [AV.refs])]
    · exact aSlice_loc hx
theorem aClear_loc {t : TypeId} {x : AV} (hx : SameAt H H' x.refs) : aClear Γ t x H = aClear Γ t x H' := by
  unfold aClear
  cases Γ.elem t with
  | none => rfl
  | some es =>
    obtain ⟨E, s⟩ := es
    simp only
    cases x with
    | row o => simp only [hx o (by simp [AV.refs])]
    | sl o i n => simp only [hx o (by simp [AV.refs])]
    | _ => rfl

theorem flatMap_mem {vs : List AV} {v : AV} (hv : v ∈ vs) {n : Nat} (hn : n ∈ v.refs) : n ∈ vs.flatMap AV.refs := List.mem_flatMap.2 ⟨v, hv, hn⟩

theorem aBuiltin_loc {b : Builtin} {ts : List TypeId} {xs : List AV} (hx : SameAt H H' (xs.flatMap AV.refs)) (hn : b = .append → ASt.obj H nid = ASt.obj H' nid) (hl : H.length = H'.length) : aBuiltin Γ b ts xs H nid = aBuiltin Γ b ts xs H' nid := by
  unfold aBuiltin
  split
  · rename_i x
    rw [lenOf_loc (hx.mono fun n hn => flatMap_mem (by simp) hn)]
  · rename_i x y
    rw [aAppend_loc (hx.mono fun n hn => flatMap_mem (by simp) hn) (hx.mono fun n hn => flatMap_mem (v := y) (by simp) hn) (hn rfl) hl]
  · rename_i x y
    exact aCopy_loc (hx.mono fun n hn => flatMap_mem (by simp) hn) (hx.mono fun n hn => flatMap_mem (v := y) (by simp) hn)
  · rename_i x
    exact aClear_loc (hx.mono fun n hn => flatMap_mem (by simp) hn)
  · rfl
  · rfl
  · rfl

theorem toArg_loc {fresh : Bool} {m : PM} {v : AV} (h : SameAt H H' v.refs) : toArg fresh H m v = toArg fresh H' m v := by
  cases m with
  | d s => simp only [toArg, toDat_loc fresh v s h, freezes_loc h]
  | o E s =>
    cases v with
    | row o => simp only [toArg, h o (by simp [AV.refs])]
    | _ => rfl
  | f => cases v with
    | fn g cp => cases cp <;> rfl
    | _ => rfl
theorem toArgs_loc {fresh : Bool} : ∀ (ms : List PM) (vs : List AV), SameAt H H' (vs.flatMap AV.refs) → toArgs fresh H ms vs = toArgs fresh H' ms vs
  | [], [], _ => rfl
  | [], _ :: _, _ => rfl
  | _ :: _, [], _ => rfl
  | m :: ms, v :: vs, h => by
    simp only [toArgs]
    rw [toArg_loc (h.mono fun n hn => flatMap_mem (by simp) hn), toArgs_loc ms vs (h.mono fun n hn => by
      obtain ⟨x, hx, hn⟩ := List.mem_flatMap.1 hn
      exact flatMap_mem (List.mem_cons_of_mem _ hx) hn)]
theorem ofRess_loc (hl : H.length = H'.length) : ∀ (rs : List BV) (nid : Nat), (∀ j, j < rowsOf rs → ASt.obj H (nid + j) = ASt.obj H' (nid + j)) → ofRess H rs nid = ofRess H' rs nid
  | [], _, _ => rfl
  | .d s x :: rs, nid, h => by simp only [ofRess, ofRess_loc hl rs nid h]
  | .f g :: rs, nid, h => by simp only [ofRess, ofRess_loc hl rs nid h]
  | .o E s xs :: rs, nid, h => by
    simp only [ofRess]
    have h0 : ASt.obj H nid = ASt.obj H' nid := h 0 (by simp [rowsOf])
    rw [newObj_loc h0 hl, ofRess_loc hl rs (nid + 1) (fun j hj => by
      have := h (j + 1) (by simp only [rowsOf, List.filter_cons_of_pos, List.length_cons] at hj ⊢; omega)
      rwa [show nid + (j + 1) = nid + 1 + j by omega] at this)]
theorem aOrc_loc {k : Orc} {as : List AV} (h : SameAt H H' (as.flatMap AV.refs)) (hn : ∀ j, j < k.rows → ASt.obj H (nid + j) = ASt.obj H' (nid + j)) (hl : H.length = H'.length) : aOrc k as H nid = aOrc k as H' nid := by
  unfold aOrc
  rw [toArgs_loc k.ps as h]
  split
  · split
    · split
      · rename_i pre rs _
        split
        · rename_i hc
          rw [ofRess_loc hl rs nid (fun j hj => hn j (by omega))]
        · rfl
      · rfl
    · rfl
  · rfl

theorem mapOpnd {l : List Operand} (h : ∀ x, x ∈ l → opnd cur x = opnd cur' x) : l.map (opnd cur) = l.map (opnd cur') := List.map_congr_left h

theorem aop_loc {o : Op} (hc : ∀ x, x ∈ o.operands.toList → opnd cur x = opnd cur' x) (hr : SameAt H H' (refsOf cur o.operands.toList)) {orc : Orcs} (hn : 0 < makes orc o → ASt.obj H nid = ASt.obj H' nid) (hl : H.length = H'.length) : aop Γ o cur H nid = aop Γ o cur' H' nid := by
  have one : ∀ x, x ∈ o.operands.toList → SameAt H H' (opnd cur x).refs := fun x hx => hr.mono fun n hn => refsOf_mem hx hn
  have hnew : 0 < makes orc o → ∀ ob, newObj? H nid ob = newObj? H' nid ob := fun h ob => newObj_loc (hn h) hl
  cases o with
  | move x => simp only [aop, hc x (by simp [Op.operands])]
  | assign x => simp only [aop, hc x (by simp [Op.operands])]
  | pick p x y => simp only [aop, hc p (by simp [Op.operands]), hc x (by simp [Op.operands]), hc y (by simp [Op.operands])]
  | alloc t => simp only [aop, hnew (by simp [makes])]
  | box t x => simp only [aop, hc x (by simp [Op.operands]), hnew (by simp [makes])]
  | build t parts =>
    have hp : ∀ x, x ∈ parts.toList.map (·.2) → opnd cur x = opnd cur' x := fun x hx => hc x (by simpa [Op.operands] using hx)
    have hb := fun fs z => bldStruct_loc (Γ := Γ) fs parts.toList z hp
    have hs : SameAt H H' (refsOf cur (parts.toList.map (·.2))) := by simpa [Op.operands] using hr
    have ha := fun s xs U => bldSlice_loc s parts.toList xs U hp hs
    simp only [aop, hb, ha]
  | buildSlice t n parts =>
    have hp : ∀ x, x ∈ parts.toList.map (·.2) → opnd cur x = opnd cur' x := fun x hx => hc x (by simpa [Op.operands] using hx)
    have hs : SameAt H H' (refsOf cur (parts.toList.map (·.2))) := by simpa [Op.operands] using hr
    have ha := fun s xs U => bldSlice_loc s parts.toList xs U hp hs
    simp only [aop, ha, hnew (by simp [makes])]
  | load t x => simp only [aop, ← hc x (by simp [Op.operands])]; exact aLoad_loc (one x (by simp [Op.operands]))
  | store t x y => simp only [aop, ← hc x (by simp [Op.operands]), ← hc y (by simp [Op.operands])]; exact aStore_loc (one x (by simp [Op.operands])) (one y (by simp [Op.operands]))
  | nilCheck x =>
    have h1 := one x (by simp [Op.operands])
    simp only [aop, ← hc x (by simp [Op.operands])]
    generalize opnd cur x = v at h1
    cases v with
    | ptr o p => simp only [h1 o (by simp [AV.refs])]
    | _ => rfl
  | binOp op t x y z => simp only [aop, hc x (by simp [Op.operands]), hc y (by simp [Op.operands])]
  | unOp op t x => simp only [aop, hc x (by simp [Op.operands])]
  | convert s d x => simp only [aop, ← hc x (by simp [Op.operands])]; exact aConvert_loc (one x (by simp [Op.operands])) (hn (by simp [makes])) hl
  | makeFunc f first caps =>
    cases f with
    | func f =>
      have hp : ∀ x, x ∈ caps.toList → opnd cur x = opnd cur' x := fun x hx => hc x (by simp [Op.operands]; exact .inr (by simpa using hx))
      have e1 : caps.toList.all (fun x => !(opnd cur x).isTup) = caps.toList.all (fun x => !(opnd cur' x).isTup) := by
        rw [Bool.eq_iff_iff, List.all_eq_true, List.all_eq_true]
        constructor <;> (intro h x hx; have := h x hx; rw [hp x hx] at *; exact this)
      have e2 : caps.toList.foldr (fun x r => AV.pr (opnd cur x) r) .un = caps.toList.foldr (fun x r => AV.pr (opnd cur' x) r) .un := by
        have := mapOpnd hp
        have k : ∀ c, caps.toList.foldr (fun x r => AV.pr (opnd c x) r) .un = (caps.toList.map (opnd c)).foldr .pr .un := fun c => by rw [List.foldr_map]
        rw [k, k, this]
      simp only [aop, e1, e2]
    | _ => rfl
  | makeSlice t l cp => simp only [aop, aMake, hc l (by simp [Op.operands]), hc cp (by simp [Op.operands]), hnew (by simp [makes])]
  | slice t x lo hi mx =>
    have h1 : ∀ y : Option Operand, (∀ z, y = some z → opnd cur z = opnd cur' z) → y.map (opnd cur) = y.map (opnd cur') := by
      intro y hy
      cases y with
      | none => rfl
      | some z => simp [hy z rfl]
    simp only [aop, ← hc x (by simp [Op.operands]), ← h1 lo (fun z hz => hc z (by simp [Op.operands, hz])), ← h1 hi (fun z hz => hc z (by simp [Op.operands, hz])), ← h1 mx (fun z hz => hc z (by simp [Op.operands, hz]))]
    rw [aSliceX_loc (one x (by simp [Op.operands]))]
  | fieldAddr t x f => simp only [aop, ← hc x (by simp [Op.operands])]; rw [aFieldAddr_loc (one x (by simp [Op.operands]))]
  | field t x f => simp only [aop, hc x (by simp [Op.operands])]
  | indexAddr t x i => simp only [aop, ← hc x (by simp [Op.operands]), ← hc i (by simp [Op.operands])]; exact aIndexAddr_loc (one x (by simp [Op.operands]))
  | index t x i => simp only [aop, hc x (by simp [Op.operands]), hc i (by simp [Op.operands])]
  | extract x i => simp only [aop, hc x (by simp [Op.operands])]
  | call cl =>
    obtain ⟨callee, args, ts⟩ := cl
    cases callee with
    | builtin b =>
      have hp : ∀ x, x ∈ args.toList → opnd cur x = opnd cur' x := fun x hx => hc x (by simp [Op.operands, Call.operands]; simpa using hx)
      simp only [aop, ← mapOpnd hp]
      refine aBuiltin_loc (hr.mono fun n hn => ?_) (fun e => hn (by subst e; simp [makes])) hl
      obtain ⟨v, hv, hn⟩ := List.mem_flatMap.1 hn
      obtain ⟨x, hx, rfl⟩ := List.mem_map.1 hv
      exact refsOf_mem (x := x) (by simp [Op.operands, Call.operands]; simpa using hx) hn
    | _ => rfl
  | _ => rfl

theorem unchain_refs : ∀ {c : AV} {vs : List AV}, unchain c = some vs → ∀ n, n ∈ vs.flatMap AV.refs → n ∈ c.refs
  | .un, vs, h, n, hn => by simp only [unchain, Option.some.injEq] at h; subst h; simp at hn
  | .pr a b, vs, h, n, hn => by
    simp only [unchain] at h
    cases hb : unchain b with
    | none => rw [hb] at h; cases h
    | some l =>
      rw [hb] at h; cases h
      rw [List.flatMap_cons, List.mem_append] at hn
      rcases hn with hn | hn
      · exact List.mem_append_left _ hn
      · exact List.mem_append_right _ (unchain_refs hb n hn)
  | .dat _ _, _, h, _, _ => by simp [unchain] at h
  | .slx _ _, _, h, _, _ => by simp [unchain] at h
  | .nils, _, h, _, _ => by simp [unchain] at h
  | .emp, _, h, _, _ => by simp [unchain] at h
  | .row _, _, h, _, _ => by simp [unchain] at h
  | .sl _ _ _, _, h, _, _ => by simp [unchain] at h
  | .vptr _ _, _, h, _, _ => by simp [unchain] at h
  | .ptr _ _, _, h, _, _ => by simp [unchain] at h
  | .fn _ _, _, h, _, _ => by simp [unchain] at h
  | .nilfn, _, h, _, _ => by simp [unchain] at h
  | .tup _, _, h, _, _ => by simp [unchain] at h
  | .dead, _, h, _, _ => by simp [unchain] at h

/-- An operation looks at its operands, and at the objects that they name. -/
theorem astep_loc {o : Op} {orc : Orcs} (hc : ∀ x, x ∈ o.operands.toList → opnd cur x = opnd cur' x) (hr : SameAt H H' (refsOf cur o.operands.toList)) (hn : ∀ j, j < makes orc o → ASt.obj H (nid + j) = ASt.obj H' (nid + j)) (hl : H.length = H'.length) : astep Γ orc o cur H nid = astep Γ orc o cur' H' nid := by
  have hn0 : 0 < makes orc o → ASt.obj H nid = ASt.obj H' nid := fun h => hn 0 h
  unfold astep
  split
  · rename_i f args ts
    have hp : ∀ x, x ∈ args.toList → opnd cur x = opnd cur' x := fun x hx => hc x (by simp [Op.operands, Call.operands]; exact .inr (by simpa using hx))
    have hf : opnd cur f = opnd cur' f := hc f (by simp [Op.operands, Call.operands])
    have e : calleeOf cur f (args.toList.map (opnd cur)) = calleeOf cur' f (args.toList.map (opnd cur')) := by
      unfold calleeOf
      rw [← hf, mapOpnd hp]
    rw [← e]
    split
    · rename_i g as hca
      split
      · rename_i k hk
        split
        · rename_i hrows
          refine aOrc_loc (hr.mono fun n hn => ?_) (fun j hj => hn j (by omega)) hl
          unfold calleeOf at hca
          split at hca
          · rename_i g' caps hfc
            cases hu : unchain caps with
            | none => rw [hu] at hca; cases hca
            | some cs =>
              rw [hu] at hca
              cases hca
              rw [List.flatMap_append, List.mem_append] at hn
              rcases hn with hn | hn
              · obtain ⟨v, hv, hn⟩ := List.mem_flatMap.1 hn
                obtain ⟨x, hx, rfl⟩ := List.mem_map.1 hv
                exact refsOf_mem (x := x) (by simp [Op.operands, Call.operands]; exact .inr (by simpa using hx)) hn
              · exact refsOf_mem (x := f) (by simp [Op.operands, Call.operands]) (by rw [hfc]; exact unchain_refs hu n hn)
          · cases hca
        · rfl
      · rfl
    · rfl
  · exact aop_loc hc hr hn0 hl
end
end Go.AI
