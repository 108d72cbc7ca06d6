/- append and copy. -/
import Derived.Test.YtadpmbipdafjiaaOpOk
namespace Go.AI
open Go Go.RowKit

section
variable {P : Program} {Γ : Gam} {c : Ctx} {w : World} {H : List AObj} {ρ : Rho}

/-- A source of cells: a slice or a string. -/
structure Src (P : Program) (w : World) (size : Nat) (val : Value) (n : Nat) (L : List Value) : Prop where
  len : ∀ w', (Builtin.lenOf val).run P w' = .ok n w'
  cells : ∀ w', w'.heap = w.heap → (Builtin.firstCells size n val).run P w' = .ok L.toArray w'

theorem SliceIs.src {A : Nat → Prop} {val : Value} {s : Sch} {xs : List s.T} (h : SliceIs w A val ⟨s, xs⟩) : ∃ L, Src P w s.cells val xs.length L ∧ RepL (RepC w A s) xs L := by
  obtain ⟨a, cap, rfl, h1, h2, h3⟩ := h
  rcases h3 with h3 | ⟨ad, L, rfl, hb, hL, hc⟩
  · simp only at h3
    subst h3
    refine ⟨[], ⟨fun w' => by simp [Builtin.lenOf], fun w' _ => ?_⟩, rfl⟩
    cases a with
    | none => simp [Builtin.firstCells]
    | some ad => simp [Builtin.firstCells, loadCells, loadCellsFrom]
  · refine ⟨L, ⟨fun w' => by simp [Builtin.lenOf], fun w' hw => ?_⟩, hL⟩
    have hlen := RepL.length (fun x c => RepC.length s) hL
    refine run_firstCells_some (P := P) w' s.cells xs.length ad _ cap L hlen (fun j v hj => ?_)
    rw [World.cell?_of_block (w := w) (by rw [hw])]
    exact hc j v hj

theorem str_src {A : Nat → Prop} (b : List UInt8) : ∃ L, Src P w 1 (.string ⟨b.toArray⟩) b.length L ∧ RepL (RepC w A (.int .u8)) b L := by
  refine ⟨b.map fun x => .int .u8 x.toNat, ⟨fun w' => by simp [Builtin.lenOf, ByteArray.size], fun w' _ => ?_⟩, ?_⟩
  · simp only [Builtin.firstCells]
    have e : (ByteArray.mk b.toArray).extract 0 b.length = ByteArray.mk b.toArray := by
      have : b.length = (ByteArray.mk b.toArray).size := by simp [ByteArray.size]
      rw [this]; exact ByteArray.extract_zero_size
    rw [e]
    simp
  · induction b with
    | nil => rfl
    | cons x b ih =>
      refine ⟨[.int .u8 x.toNat], _, rfl, ⟨rfl, ?_⟩, ih⟩
      have := x.toNat_lt
      simp only [toI, Lit.wf, IntKind.min, IntKind.max, IntKind.signed, IntKind.bits]
      simp; omega

/-- What the program says of an element's type. -/
theorem SchOk.info {t : TypeId} {s : Sch} (h : SchOk P t s) : ∃ i z, P.info? t = some i ∧ i.zero = some z ∧ z.cells.toList = zcells s ∧ i.size = s.cells ∧ i.bytes ≤ 65536 ∧ 0 < i.bytes := by
  cases s <;> exact h.1

theorem run_append_fits {t t' ty e : TypeId} {i : TypeInfo} (ht : P.underlying t = some (.slice e)) (hi : P.info? e = some i) (hd : (∃ e', P.underlying t' = some (.slice e')) ∨ P.underlying t' = some .string)
    {base : Option Addr} {n cap m : Nat} {val : Value} {L : List Value} (hs : Src P w i.size val m L) (hroom : n + m ≤ cap) :
    (Builtin.append_ #[t, t'] ty #[.slice base n cap, val]).run P w =
      match base with
      | none => .ok (.slice none (n + m) cap) w
      | some a => ((storeCells (a.add (n * i.size)) L).run P w).andThen fun _ w' => .ok (.slice (some a) (n + m) cap) w' := by
  have hl := hs.len w
  have hc := hs.cells w rfl
  rcases hd with ⟨e', hd⟩ | hd <;> cases base <;> simp [Builtin.append_, run_underlying ht, run_underlying hd, sizeOf, typeInfo, hi, hl, hc, hroom]

theorem run_append_grows {t t' ty e : TypeId} {i : TypeInfo} {z : Value} (ht : P.underlying t = some (.slice e)) (hi : P.info? e = some i) (hiz : i.zero = some z) (hd : (∃ e', P.underlying t' = some (.slice e')) ∨ P.underlying t' = some .string)
    {base : Option Addr} {n cap m : Nat} {val : Value} {L K : List Value} (hs : Src P w i.size val m L) (ho : Src P w i.size (.slice base n cap) n K) (hroom : ¬ n + m ≤ cap)
    (hn : n + m ≤ big) (hby : i.bytes ≤ 65536) :
    (Builtin.append_ #[t, t'] ty #[.slice base n cap, val]).run P w =
      .ok (.slice (some ⟨w.heap.size, 0, none⟩) (n + m) (grownCap w (n + m) cap e)) (w.drew.alloc (.cells ((K ++ L) ++ (Builtin.zeroCells z.cells (grownCap w (n + m) cap e - (n + m))).toList).toArray e)) := by
  have hl := hs.len w
  have hc := hs.cells w.drew rfl
  have hc' := ho.cells w.drew rfl
  have hbig : (n + m) * i.bytes ≤ 140737488355328 := by
    have := Nat.mul_le_mul hn hby
    simp only [big] at this; omega
  have h63 : ¬ (9223372036854775807 < ((n : Int) + (m : Int))) := by simp only [big] at hn; omega
  have h48 : ¬ (281474976710656 < Builtin.nextslicecap (n + m) cap * i.bytes) := by have := growslice_fits (old := cap) (by omega) hbig; omega
  rcases hd with ⟨e', hd⟩ | hd <;> simp [Builtin.append_, run_underlying ht, run_underlying hd, sizeOf, typeInfo, zeroValue, hi, hiz, hl, hroom, h63, h48, Question.forced, hc, hc', newRow, grownCap] <;> (congr 2; apply Array.ext'; simp)

theorem elem_ok (hΓ : GamOk P Γ) {t E : TypeId} {s : Sch} (h : Γ.elem t = some (E, s)) : P.underlying t = some (.slice E) ∧ SchOk P E s := by
  unfold Gam.elem at h
  split at h
  · rename_i e cells sc hti
    obtain ⟨i, d, _, hu, _, hk⟩ := (hΓ t _ hti).info
    have hk' : d = .slice e := hk
    subst hk'
    unfold Gam.sch at h
    cases hte : Γ.at_ e with
    | none => simp [hte] at h
    | some tie =>
      cases hs : tie.sch with
      | none => simp [hte, hs] at h
      | some s' =>
        simp only [hte, hs, Option.bind_some, Option.map_some, Option.some.injEq, Prod.mk.injEq] at h
        obtain ⟨rfl, rfl⟩ := h
        exact ⟨hu, ((hΓ e tie hte).sch s' hs).1⟩
  · cases h

theorem newObj_some {n : Nat} {ob : AObj} {U : Upd} (h : newObj? H n ob = some U) : n < H.length ∧ ASt.obj H n = .free ∧ U = [(n, ob)] := by
  unfold newObj? at h
  split at h
  · rename_i hn
    split at h
    · rename_i hf
      exact ⟨hn, hf, by simpa using h.symm⟩
    · cases h
  · cases h

theorem rv_row {A : Nat → Prop} {o g C : Nat} {E : TypeId} {s : Sch} {xs : List s.T} {fz : Bool} (ho : ASt.obj H o = .row E s xs fz) (hr : ρ o = some (g, C)) {cap : Nat} (h1 : xs.length ≤ cap) (h2 : cap ≤ C) (h3 : C ≤ maxLen) :
    RV w A H ρ (.row o) (.slice (some ⟨g, 0, none⟩) xs.length cap) := by
  refine (⟨by rw [ho]; simp, ?_⟩ : SlR H ρ o 0 none [_])
  rw [ho]
  simp only [AObj.elems]
  refine ⟨some ⟨g, 0, none⟩, cap, rfl, by simp, h1, Nat.le_trans h2 h3, ?_⟩
  rw [hr]
  exact ⟨by simpa using h2, .inr (by simp)⟩
theorem rv_row_none {A : Nat → Prop} {o : Nat} {E : TypeId} {s : Sch} {fz : Bool} (ho : ASt.obj H o = .row E s [] fz) (hr : ρ o = none) (a : Option Addr) :
    RV w A H ρ (.row o) (.slice a 0 0) := by
  refine (⟨by rw [ho]; simp, ?_⟩ : SlR H ρ o 0 none [_])
  rw [ho]
  simp only [AObj.elems]
  refine ⟨a, 0, rfl, by simp, Nat.le_refl _, Nat.zero_le _, ?_⟩
  rw [hr]

/-- A new row in a new block, with room behind its elements. -/
theorem grow_obj (h : StOk c w H ρ) {n : Nat} (hn : n < H.length) (hfree : ASt.obj H n = .free) {E : TypeId} {s : Sch} {zs : List s.T} {K Z : List Value} {C : Nat}
    (hz : RepL (RepC w (Avoid c.X H ρ) s) zs K) (hC : zs.length ≤ C) (hm : C ≤ maxLen) (hZ : (K ++ Z).length = C * s.cells) :
    Tr c w H ρ (w.drew.alloc (.cells (K ++ Z).toArray E)) (H.set n (.row E s zs false)) (updR ρ n (some (w.heap.size, C))) ∧
    ∀ A, RV (w.drew.alloc (.cells (K ++ Z).toArray E)) A (H.set n (.row E s zs false)) (updR ρ n (some (w.heap.size, C))) (.row n) (.slice (some ⟨w.heap.size, 0, none⟩) zs.length C) := by
  have hlen := RepL.length (fun x c => RepC.length s) hz
  refine ⟨(Tr.drew h).trans (Tr.alloc (w := w.drew) (Tr.drew h).ok hn hfree (ob := .row E s zs false) (cur := (K ++ Z).toArray) (E := E) (fr := (0, 0)) (C := C) (.inl rfl) ⟨rfl, by simpa using hZ, hC, hm, ?_⟩), fun A => ?_⟩
  · have e : (K ++ Z).toArray.toList.take (zs.length * s.cells) = K := by
      rw [← hlen]; exact List.take_left
    rw [e]
    exact RepL.mono (fun x c => (Tr.drew h).rep) hz
  · exact rv_row (obj_set_same hn _) (updR_same _ _) hC (Nat.le_refl _) hm

theorem z_size {z : Value} {s : Sch} (hz : z.cells.toList = zcells s) (w : World) (A : Nat → Prop) : z.cells.size = s.cells := by
  have := RepC.length s (RepC.zero w A s)
  rw [← hz] at this
  simpa using this

theorem srcElems_ok (h : StOk c w H ρ) {v : AV} {val : Value} {s : Sch} {xs : List s.T} (hv : RV w (Avoid c.X H ρ) H ρ v val) (he : srcElems H s v = some xs) :
    ∃ L, Src P w s.cells val xs.length L ∧ RepL (RepC w (Avoid c.X H ρ) s) xs L := by
  unfold srcElems at he
  split at he
  · rename_i b
    obtain ⟨rfl, _⟩ := RV.str hv
    unfold elemsAs at he
    simp only [elemsOf] at he
    split at he
    · rename_i hs
      subst hs
      simp only [Option.some.injEq] at he
      subst he
      exact str_src b
    · cases he
  · exact (elemsAs_ok h hv he).src

/-- A block that no object lies in. -/
theorem Tr.junk (h : StOk c w H ρ) (b : Obj) : Tr c w H ρ (w.alloc b) H ρ := by
  have hk : Keeps (Avoid c.X H ρ) w (w.alloc b) := ⟨by simp, fun k hb _ => heap_alloc w _ k hb⟩
  refine ⟨hk, fun _ _ h => h, Compat.refl _ _, ⟨fun o => ?_, h.inj, ⟨h.fr.os, h.fr.tape, h.fr.output, Nat.le_trans h.fr.size hk.size, fun k hb hS => (heap_alloc w _ k (Nat.lt_of_lt_of_le hb h.fr.size)).trans (h.fr.block k hb hS)⟩, h.old⟩⟩
  exact (h.obj o).mono hk (fun _ _ h => h) (Compat.refl _ _) rfl (fun hl g C hr => heap_alloc w _ g (h.lt hl hr).1)
theorem StOk.new_free (h : StOk c w H ρ) : ¬ Avoid c.X H ρ w.heap.size := by
  rintro (hx | ⟨o, C, hm, hr⟩)
  · have := h.old _ hx; have := h.fr.size; omega
  · have := (h.lt (AObj.mut_live hm) hr).1; omega

theorem aAppend_ok (hΓ : GamOk P Γ) (h : StOk c w H ρ) {t t' ty : TypeId} {x y v : AV} {xv yv : Value} {U : Upd} {nid : Nat} (hx : RV w (Avoid c.X H ρ) H ρ x xv) (hy : RV w (Avoid c.X H ρ) H ρ y yv)
    (ht : t' = t ∨ Γ.sch t' = some .str) (ha : aAppend Γ t x y H nid = some (true, v, U)) : Gives P c w H ρ (Builtin.append_ #[t, t'] ty #[xv, yv]) v U := by
  unfold aAppend at ha
  cases hel : Γ.elem t with
  | none => simp [hel] at ha
  | some Es =>
    obtain ⟨E, s⟩ := Es
    simp only [hel] at ha
    obtain ⟨hu, hE⟩ := elem_ok hΓ hel
    obtain ⟨i, z, hi, hiz, hzc, hsz, hby, hby0⟩ := SchOk.info hE
    have hd : (∃ e', P.underlying t' = some (.slice e')) ∨ P.underlying t' = some .string := by
      rcases ht with rfl | ht
      · exact .inl ⟨E, hu⟩
      · right
        unfold Gam.sch at ht
        cases hti : Γ.at_ t' with
        | none => simp [hti] at ht
        | some ti =>
          have hs : ti.sch = some .str := by simpa [hti] using ht
          exact ((hΓ t' ti hti).sch _ hs).1.2
    have hsrc := fun ys => srcElems_ok (P := P) (s := s) (xs := ys) h hy
    cases hys : srcElems H s y with
    | none => simp [hys] at ha
    | some ys =>
    simp only [hys] at ha
    obtain ⟨L, hS, hL⟩ := hsrc ys hys
    have hLlen := RepL.length (fun x c => RepC.length s) hL
    rw [← hsz] at hS
    have hzsz : z.cells.size = s.cells := z_size hzc w (Avoid c.X H ρ)
    -- a row without a block
    have fromNothing : ∀ (a : Option Addr) (H1 : List AObj), StOk c w H1 ρ → (∀ n, n < H1.length → True) → ∀ U', newObj? H1 nid (.row E s ys false) = some U' → ys.length ≤ big → RepL (RepC w (Avoid c.X H1 ρ) s) ys L →
        ∃ val w' ρ', (Builtin.append_ #[t, t'] ty #[.slice a 0 0, yv]).run P w = .ok val w' ∧ RV w' (Avoid c.X (upd H1 U') ρ') (upd H1 U') ρ' (.row nid) val ∧ Tr c w H1 ρ w' (upd H1 U') ρ' := by
      intro a H1 h1 _ U' hU hbig hL1
      obtain ⟨hn, hfree, rfl⟩ := newObj_some hU
      by_cases hm : ys.length = 0
      · have hys0 : ys = [] := List.eq_nil_of_length_eq_zero hm
        subst hys0
        have hL0 : L = [] := hL
        subst hL0
        have hrun := run_append_fits (P := P) (w := w) (ty := ty) hu hi hd (base := a) (n := 0) (cap := 0) hS (by simp)
        refine ⟨.slice a 0 0, w, updR ρ nid none, ?_, ?_, Tr.nothing h1 hn hfree E s⟩
        · rw [hrun]
          cases a <;> simp [storeCells]
        · exact rv_row_none (obj_set_same hn _) (updR_same _ _) a
      · have ho : Src P w i.size (.slice a 0 0) 0 [] := ⟨fun w' => by simp [Builtin.lenOf], fun w' _ => by cases a <;> simp [Builtin.firstCells, loadCells, loadCellsFrom]⟩
        have hrun := run_append_grows (P := P) (w := w) (ty := ty) hu hi hiz hd hS ho (by omega) (by simpa using hbig) hby
        simp only [Nat.zero_add, List.nil_append] at hrun
        have hge := grownCap_ge w ys.length 0 E
        have hle := grownCap_le_maxLen w ys.length 0 E (by simp only [big, maxLen] at hbig ⊢; omega)
        obtain ⟨g1, g2⟩ := grow_obj h1 hn hfree (E := E) (Z := (Builtin.zeroCells z.cells (grownCap w ys.length 0 E - ys.length)).toList) hL1 hge hle (by
          have := size_zeroCells z.cells (grownCap w ys.length 0 E - ys.length)
          simp only [List.length_append, Array.length_toList, this, hLlen, hzsz, ← Nat.add_mul]
          congr 1; omega)
        refine ⟨_, _, updR ρ nid (some (w.heap.size, grownCap w ys.length 0 E)), hrun, ?_, ?_⟩
        · have := g2 (Avoid c.X (upd H1 [(nid, .row E s ys false)]) (updR ρ nid (some (w.heap.size, grownCap w ys.length 0 E))))
          exact this
        · exact g1
    split at ha
    · -- nil
      cases hU : newObj? H nid (.row E s ys false) with
      | none => simp [hU] at ha
      | some U' =>
        simp only [hU, Option.map_some, Option.some.injEq, Prod.mk.injEq, decide_eq_true_eq] at ha
        obtain ⟨hbig, rfl, rfl⟩ := ha
        have hv : [xv] = [Value.slice none 0 0] := hx
        simp only [List.cons.injEq, and_true] at hv
        subst hv
        exact fromNothing none H h (fun _ _ => trivial) _ hU hbig hL
    · -- empty
      cases hU : newObj? H nid (.row E s ys false) with
      | none => simp [hU] at ha
      | some U' =>
        simp only [hU, Option.map_some, Option.some.injEq, Prod.mk.injEq, decide_eq_true_eq] at ha
        obtain ⟨hbig, rfl, rfl⟩ := ha
        obtain ⟨a, hv⟩ := (hx : ∃ a, [xv] = [Value.slice a 0 0])
        simp only [List.cons.injEq, and_true] at hv
        subst hv
        exact fromNothing a H h (fun _ _ => trivial) _ hU hbig hL
    · -- a row of the call's own
      rename_i o
      split at ha
      · rename_i E' s' xs hob
        split at ha
        · rename_i hEs
          obtain ⟨rfl, rfl⟩ := hEs
          simp only [castT] at ha
          cases hU : newObj? H nid (.row E' s' (xs ++ ys) false) with
          | none => simp [hU] at ha
          | some U' =>
            simp only [hU, Option.map_some, Option.some.injEq, Prod.mk.injEq] at ha
            obtain ⟨hbig, rfl, rfl⟩ := ha
            obtain ⟨hn, hfree, rfl⟩ := newObj_some hU
            have hon : o ≠ nid := by rintro rfl; rw [hob] at hfree; cases hfree
            have hmut : (ASt.obj H o).mut = true := by rw [hob]; rfl
            have hup : upd H ((o, .gone) :: [(nid, .row E' s' (xs ++ ys) false)]) = (H.set o .gone).set nid (.row E' s' (xs ++ ys) false) := rfl
            unfold Gives
            rw [hup]
            have hfree' : ASt.obj (H.set o .gone) nid = .free := by rw [obj_set_other hon]; exact hfree
            have hn' : nid < (H.set o .gone).length := by simpa using hn
            have T1 := Tr.forget h o
            have hU1 : newObj? (H.set o .gone) nid (.row E' s' (xs ++ ys) false) = some [(nid, .row E' s' (xs ++ ys) false)] := by
              unfold newObj?; rw [if_pos hn', hfree']
            have hx' := hx
            obtain ⟨_, hsl⟩ := (hx' : SlR H ρ o 0 none [xv])
            rw [hob] at hsl
            simp only [AObj.elems, Option.getD_none] at hsl
            obtain ⟨a, cap, hval, _, hcap, hcm, hpl⟩ := hsl
            simp only [List.cons.injEq, and_true] at hval
            subst hval
            have hok := h.obj o
            rw [hob] at hok
            rcases hok with ⟨hr, hx0⟩ | ⟨g, C, hr, hown, cur, hb, hcs, hxC, hCm, hK⟩
            · -- it has no block
              rw [hr] at hpl
              simp only at hpl
              subst hpl
              subst hx0
              simp only [List.nil_append] at hbig hU1 ⊢
              obtain ⟨val, w', ρ', h1, h2, h3⟩ := fromNothing a (H.set o .gone) T1.ok (fun _ _ => trivial) _ hU1 (of_decide_eq_true hbig) (RepL.mono (fun x c => T1.rep) hL)
              exact ⟨val, w', ρ', h1, h2, T1.trans h3⟩
            · rw [hr] at hpl
              obtain ⟨hC2, hpl⟩ := hpl
              simp only [Nat.zero_add] at hC2
              by_cases hroom : xs.length + ys.length ≤ cap
              · rcases hpl with hc0 | ha
                · -- capacity 0
                  subst hc0
                  have hx0 : xs = [] := List.eq_nil_of_length_eq_zero (by omega)
                  have hy0 : ys = [] := List.eq_nil_of_length_eq_zero (by omega)
                  subst hx0; subst hy0
                  simp only [List.nil_append] at hbig hU1 ⊢
                  obtain ⟨val, w', ρ', h1, h2, h3⟩ := fromNothing a (H.set o .gone) T1.ok (fun _ _ => trivial) _ hU1 (of_decide_eq_true hbig) (RepL.mono (fun x c => T1.rep) hL)
                  exact ⟨val, w', ρ', h1, h2, T1.trans h3⟩
                · -- in place
                  subst ha
                  simp only [Nat.zero_mul]
                  have hrun := run_append_fits (P := P) (w := w) (ty := ty) hu hi hd (base := some ⟨g, 0, none⟩) (n := xs.length) (cap := cap) hS hroom
                  have hfit : (xs.length + ys.length) * s'.cells ≤ C * s'.cells := Nat.mul_le_mul_right _ (by omega)
                  rw [Nat.add_mul] at hfit
                  obtain ⟨w', hr1, hb', ho'⟩ := run_storeCells P (g := g) (off := xs.length * s'.cells) L 0 cur w hb (by rw [hcs, hLlen]; omega) (RepL.cells (fun x c hc => RepC.oneCell s' hc) hL)
                  simp only [Nat.add_zero] at hb'
                  have hXlen := RepL.length (fun x c => RepC.length s') hK
                  have T := Tr.take h hn hfree hmut hr (ob := .row E' s' (xs ++ ys) false) hb' ho'.oth ho'.size ho'.os ho'.tape ho'.output (C := C) ⟨rfl, by
                    rw [splice_size (by rw [hcs, hLlen]; omega), hcs], by simp; omega, hCm, by
                    have e : (splice cur (xs.length * s'.cells) L).toList.take ((xs ++ ys).length * s'.cells) = cur.toList.take (xs.length * s'.cells) ++ L := by
                      simp only [splice, List.toList_toArray]
                      have el : (cur.toList.take (xs.length * s'.cells) ++ L).length = (xs ++ ys).length * s'.cells := by
                        rw [List.length_append, hXlen, hLlen, List.length_append, Nat.add_mul]
                      rw [← el, List.take_left]
                    rw [e]
                    exact RepL.append hK hL⟩
                  refine ⟨.slice (some ⟨g, 0, none⟩) (xs.length + ys.length) cap, w', _, ?_, ?_, T⟩
                  · rw [hrun]
                    simp only [hsz, add_lit, Nat.zero_add, hr1, Result.andThen_ok]
                  · have := rv_row (w := w') (H := (H.set o .gone).set nid (.row E' s' (xs ++ ys) false)) (A := Avoid c.X ((H.set o .gone).set nid (.row E' s' (xs ++ ys) false)) (updR ρ nid (some (g, C)))) (obj_set_same (by simpa using hn) (AObj.row E' s' (xs ++ ys) false)) (updR_same (ρ := ρ) nid (some (g, C))) (cap := cap) (by simpa using hroom) hC2 hCm
                    rw [List.length_append] at this
                    exact this
              · -- it grows
                obtain ⟨L0, hS0, hL0⟩ := (elems_ok h hx (by simp only [elemsOf, hob]; rfl : elemsOf H (.row o) = some ⟨s', xs⟩)).src (P := P)
                rw [← hsz] at hS0
                have hL0len := RepL.length (fun x c => RepC.length s') hL0
                have hbig' : xs.length + ys.length ≤ big := by have := of_decide_eq_true hbig; simpa using this
                have hrun := run_append_grows (P := P) (w := w) (ty := ty) hu hi hiz hd hS hS0 hroom hbig' hby
                have hge := grownCap_ge w (xs.length + ys.length) cap E'
                have hle := grownCap_le_maxLen w (xs.length + ys.length) cap E' (by simp only [big, maxLen] at hbig' ⊢; omega)
                obtain ⟨g1, g2⟩ := grow_obj T1.ok hn' hfree' (E := E') (zs := xs ++ ys) (K := L0 ++ L) (Z := (Builtin.zeroCells z.cells (grownCap w (xs.length + ys.length) cap E' - (xs.length + ys.length))).toList)
                  (RepL.mono (fun x c => T1.rep) (RepL.append hL0 hL)) (by simpa using hge) hle (by
                  have := size_zeroCells z.cells (grownCap w (xs.length + ys.length) cap E' - (xs.length + ys.length))
                  simp only [List.length_append, Array.length_toList, this, hLlen, hL0len, hzsz, ← Nat.add_mul]
                  congr 1; omega)
                refine ⟨_, _, updR ρ nid (some (w.heap.size, grownCap w (xs.length + ys.length) cap E')), hrun, ?_, T1.trans ?_⟩
                · have := g2 (Avoid c.X ((H.set o .gone).set nid (.row E' s' (xs ++ ys) false)) (updR ρ nid (some (w.heap.size, grownCap w (xs.length + ys.length) cap E'))))
                  rw [List.length_append] at this
                  exact this
                · exact g1
        · cases ha
      · cases ha
    · -- a slice without spare room
      rename_i s' xs
      split at ha
      · rename_i hs
        subst hs
        simp only [castT, Option.some.injEq, Prod.mk.injEq] at ha
        obtain ⟨hbig, rfl, rfl⟩ := ha
        obtain ⟨a, hval, hrep⟩ := (hx : ∃ a, [xv] = [Value.slice a xs.length xs.length] ∧ RepC w (Avoid c.X H ρ) (.slc s') xs [xv])
        simp only [List.cons.injEq, and_true] at hval
        subst hval
        have hbig' : xs.length + ys.length ≤ big := by have := of_decide_eq_true hbig; simpa using this
        by_cases hm : ys.length = 0
        · have hy0 : ys = [] := List.eq_nil_of_length_eq_zero hm
          subst hy0
          have hL0 : L = [] := hL
          subst hL0
          have hrun := run_append_fits (P := P) (w := w) (ty := ty) hu hi hd (base := a) (n := xs.length) (cap := xs.length) hS (by simp)
          refine ⟨.slice a xs.length xs.length, w, ρ, ?_, ?_, Tr.refl h⟩
          · rw [hrun]
            cases a <;> simp [storeCells]
          · rw [List.append_nil]; exact hrep
        · obtain ⟨L0, hS0, hL0⟩ := (RepC.slice hrep).src (P := P)
          rw [← hsz] at hS0
          have hL0len := RepL.length (fun x c => RepC.length s') hL0
          have hrun := run_append_grows (P := P) (w := w) (ty := ty) hu hi hiz hd hS hS0 (by omega) hbig' hby
          have hge := grownCap_ge w (xs.length + ys.length) xs.length E
          have hle := grownCap_le_maxLen w (xs.length + ys.length) xs.length E (by simp only [big, maxLen] at hbig' ⊢; omega)
          have T := (Tr.drew h).trans (Tr.junk (w := w.drew) (Tr.drew h).ok (.cells ((L0 ++ L) ++ (Builtin.zeroCells z.cells (grownCap w (xs.length + ys.length) xs.length E - (xs.length + ys.length))).toList).toArray E))
          refine ⟨_, _, ρ, hrun, ?_, T⟩
          have hnf := h.new_free
          refine (⟨some ⟨w.heap.size, 0, none⟩, _, by rw [List.length_append], by simpa using hge, hle, .inr ⟨⟨w.heap.size, 0, none⟩, L0 ++ L, rfl, ?_, hnf, ?_, ?_⟩⟩ : RepC _ _ (.slc s') (xs ++ ys) [_])
          · show w.heap.size < (w.drew.alloc _).heap.size
            simp
          · exact RepL.mono (fun x c => T.rep) (RepL.append hL0 hL)
          · intro j u hj
            rw [add_lit]
            have := World.cell?_alloc_new w.drew ((L0 ++ L) ++ (Builtin.zeroCells z.cells (grownCap w (xs.length + ys.length) xs.length E - (xs.length + ys.length))).toList).toArray E (0 + j)
            refine this.trans ?_
            have hjl : j < (L0 ++ L).length := by
              rcases Nat.lt_or_ge j (L0 ++ L).length with h' | h'
              · exact h'
              · rw [List.getElem?_eq_none h'] at hj; cases hj
            rw [← hj, Nat.zero_add, List.getElem?_toArray, List.getElem?_append_left hjl]
      · cases ha
    · cases ha

end
end Go.AI
