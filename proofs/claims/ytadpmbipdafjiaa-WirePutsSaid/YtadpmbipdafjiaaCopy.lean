/- copy, min, max. -/
import Derived.Test.YtadpmbipdafjiaaTail
namespace Go.AI
open Go Go.RowKit

section
variable {P : Program} {Γ : Gam} {c : Ctx} {w : World} {H H' : List AObj} {ρ : Rho} {o : Nat} {cur : List AV} {a : Act}

/-- A source of which the first so many elements are taken. -/
structure SrcN (P : Program) (w : World) (size : Nat) (val : Value) (n : Nat) (L : List Value) : Prop where
  len : (Builtin.lenOf val).run P w = .ok n w
  cells : ∀ k, k ≤ n → (Builtin.firstCells size k val).run P w = .ok (L.take (k * size)).toArray w

theorem SliceIs.srcN {A : Nat → Prop} {val : Value} {s : Sch} {xs : List s.T} (h : SliceIs w A val ⟨s, xs⟩) : ∃ L, SrcN P w s.cells val xs.length L ∧ RepL (RepC w A s) xs L := by
  obtain ⟨a, cap, rfl, h1, h2, h3⟩ := h
  rcases h3 with h3 | ⟨ad, L, rfl, hb, hL, hc⟩
  · simp only at h3
    subst h3
    refine ⟨[], ⟨by simp [Builtin.lenOf], fun k hk => ?_⟩, rfl⟩
    have : k = 0 := by simpa using hk
    subst this
    cases a with
    | none => simp [Builtin.firstCells]
    | some ad => simp [Builtin.firstCells, loadCells, loadCellsFrom]
  · refine ⟨L, ⟨by simp [Builtin.lenOf], fun k hk => ?_⟩, hL⟩
    have hlen : L.length = xs.length * s.cells := RepL.length (fun x c => RepC.length s) hL
    have hk : k ≤ xs.length := hk
    have hle : k * s.cells ≤ xs.length * s.cells := Nat.mul_le_mul_right _ hk
    refine run_firstCells_some (P := P) w s.cells k ad _ cap _ (by rw [List.length_take]; omega) (fun j v hj => ?_)
    rw [List.getElem?_take] at hj
    split at hj
    · exact hc j v hj
    · cases hj

theorem str_srcN {A : Nat → Prop} (b : List UInt8) : ∃ L, SrcN P w 1 (.string ⟨b.toArray⟩) b.length L ∧ RepL (RepC w A (.int .u8)) b L := by
  refine ⟨b.map fun x => .int .u8 x.toNat, ⟨by simp [Builtin.lenOf, ByteArray.size], fun k hk => ?_⟩, bytes_repL b⟩
  simp only [Builtin.firstCells]
  have e : (((ByteArray.mk b.toArray).extract 0 k).data.map fun b => Value.int .u8 b.toNat) = ((b.map fun x => Value.int .u8 x.toNat).take (k * 1)).toArray := by
    apply Array.ext'
    simp [ByteArray.data_extract]
  rw [e]; rfl

theorem srcElemsN_ok (h : StOk c w H ρ) {v : AV} {val : Value} {s : Sch} {xs : List s.T} (hv : RV w (Avoid c.X H ρ) H ρ v val) (he : srcElems H s v = some xs) :
    ∃ L, SrcN P w s.cells val xs.length L ∧ RepL (RepC w (Avoid c.X H ρ) s) xs L := by
  unfold srcElems at he
  split at he
  · rename_i b
    obtain ⟨rfl, _⟩ := RV.str hv
    unfold elemsAs at he
    simp only [elemsOf] at he
    split at he
    · rename_i hs
      subst hs
      simp only [Option.some.injEq] at he
      subst he
      exact str_srcN b
    · cases he
  · exact (elemsAs_ok h hv he).srcN

theorem run_copyN {t e ty : TypeId} {ts : Array TypeId} {i : TypeInfo} (h0 : ts[0]? = some t) (ht : P.underlying t = some (.slice e)) (hi : P.info? e = some i) {base : Option Addr} {dl cap m : Nat} {val : Value} {L : List Value} (hs : SrcN P w i.size val m L) :
    (Builtin.copy_ ts ty #[.slice base dl cap, val]).run P w =
      match base with
      | none => .ok (.int .i64 (Nat.min m dl : Nat)) w
      | some ad => ((storeCells ad (L.take (Nat.min m dl * i.size))).run P w).andThen fun _ w' => .ok (.int .i64 (Nat.min m dl : Nat)) w' := by
  have hl := hs.len
  have hc := hs.cells (Nat.min m dl) (Nat.min_le_left _ _)
  cases base <;> simp [Builtin.copy_, h0, run_underlying ht, sizeOf, typeInfo, hi, hl, hc, goInt]

theorem drop_take' {α : Type} (l : List α) (a b n : Nat) (h : a + b ≤ n) : ((l.take n).drop a).take b = (l.drop a).take b := by
  rw [List.drop_take, List.take_take]; congr 1; omega

/-- Elements put in place of others. -/
theorem repL_splice {α : Type} {R : α → List Value → Prop} {n : Nat} (hR : ∀ x c, R x c → c.length = n) {xs ys : List α} {K L : List Value} (hK : RepL R xs K) (hL : RepL R ys L) {off : Nat} :
    RepL R (xs.take off ++ ys ++ xs.drop (off + ys.length)) (K.take (off * n) ++ L ++ K.drop (off * n + L.length)) := by
  have hlen := RepL.length hR hL
  have e : off * n + L.length = (off + ys.length) * n := by rw [hlen, Nat.add_mul]
  rw [e]
  exact RepL.append (RepL.append (RepL.take hR hK off) hL) (RepL.drop hR hK _)

theorem obj_set_self (H : List AObj) (o : Nat) (o' : Nat) : ASt.obj (H.set o (ASt.obj H o)) o' = ASt.obj H o' := by
  by_cases ho : o' = o
  · subst ho
    rcases Nat.lt_or_ge o' H.length with hlt | hge
    · rw [obj_set_same hlt]
    · rw [List.set_eq_of_length_le hge]
  · rw [obj_set_other (Ne.symm ho)]

/-- The elements of an object are written. -/
theorem write_elems (h : StOk c w H ρ) {o off : Nat} {len : Option Nat} {e : Elems} {ad : Option Addr} {dl cap : Nat} (he : (ASt.obj H o).elems = some e) (hmut : (ASt.obj H o).mut = true) (hv : SlR H ρ o off len [.slice ad dl cap])
    {ys : List e.s.T} {L : List Value} (hL : RepL (RepC w (Avoid c.X H ρ) e.s) ys L) (hn : ys.length ≤ dl) {ob : AObj}
    (hob : ob.elems = some ⟨e.s, e.xs.take off ++ ys ++ e.xs.drop (off + ys.length)⟩) (hsame : (∃ E fz, ASt.obj H o = .row E e.s e.xs fz ∧ ob = .row E e.s (e.xs.take off ++ ys ++ e.xs.drop (off + ys.length)) false) ∨
      (∃ n, ASt.obj H o = .box (.dat (.arr n e.s) e.xs) ∧ ob = .box (.dat (.arr n e.s) (e.xs.take off ++ ys ++ e.xs.drop (off + ys.length))))) :
    ∃ w', (match ad with | none => (.ok () w : Result Unit) | some ad => (storeCells ad L).run P w) = .ok () w' ∧ Tr c w H ρ w' (H.set o ob) ρ := by
  have hlenL := RepL.length (fun x c => RepC.length e.s) hL
  obtain ⟨_, hv⟩ := hv
  simp only [he] at hv
  obtain ⟨ad', cap', hval, h1, h2, h3, h4⟩ := hv
  simp only [List.cons.injEq, Value.slice.injEq, and_true] at hval
  obtain ⟨rfl, rfl, rfl⟩ := hval
  have hlen' : (e.xs.take off ++ ys ++ e.xs.drop (off + ys.length)).length = e.xs.length := by simp; omega
  by_cases hy : ys = []
  · subst hy
    have hL0 : L = [] := hL
    subst hL0
    have hob' : ob = ASt.obj H o := by
      rcases hsame with ⟨E, fz, h1, h2⟩ | ⟨n, h1, h2⟩
      · rw [h1] at hmut
        have : fz = false := by simpa [AObj.mut] using hmut
        subst this
        rw [h1, h2]; simp
      · rw [h1, h2]; simp
    refine ⟨w, by cases ad <;> simp [storeCells], ?_⟩
    rw [hob']
    exact Tr.reheap h (obj_set_self H o)
  · have hpos : 0 < ys.length := List.length_pos_iff.2 hy
    rcases h.elems he with ⟨hr, _⟩ | ⟨g, C, E, cur, hr, hown, hb, hxC, hCm, hcs, hK⟩
    · rw [hr] at h4; simp only at h4; omega
    · rw [hr] at h4
      simp only at h4
      obtain ⟨h5, h6⟩ := h4
      rcases h6 with h6 | h6
      · omega
      subst h6
      have hfit : (off + ys.length) * e.s.cells ≤ e.xs.length * e.s.cells := Nat.mul_le_mul_right _ (by omega)
      have hfit2 : e.xs.length * e.s.cells ≤ C * e.s.cells := Nat.mul_le_mul_right _ hxC
      rw [Nat.add_mul] at hfit
      obtain ⟨w', hrun, hb', ho'⟩ := run_storeCells P (g := g) (off := off * e.s.cells) L 0 cur w hb (by rw [hcs, hlenL]; omega) (RepL.cells (fun x c hc => RepC.oneCell e.s hc) hL)
      simp only [Nat.add_zero] at hb'
      refine ⟨w', hrun, ?_⟩
      have hsp : (splice cur (off * e.s.cells) L).toList.take (e.xs.length * e.s.cells) = (cur.toList.take (e.xs.length * e.s.cells)).take (off * e.s.cells) ++ L ++ (cur.toList.take (e.xs.length * e.s.cells)).drop (off * e.s.cells + L.length) := by
        simp only [splice]
        rw [List.take_append, List.take_append, List.take_take, List.take_take, Nat.min_eq_right (show off * e.s.cells ≤ e.xs.length * e.s.cells by omega), Nat.min_eq_left (show off * e.s.cells ≤ e.xs.length * e.s.cells by omega)]
        have hl1 : (cur.toList.take (off * e.s.cells)).length = off * e.s.cells := by simp only [List.length_take, Array.length_toList]; omega
        rw [hl1, List.take_of_length_le (show L.length ≤ e.xs.length * e.s.cells - off * e.s.cells by omega), List.drop_take]
        congr 2
        rw [List.length_append, hl1]
      have hnew := repL_splice (fun x c => RepC.length e.s) hK hL (off := off)
      rw [← hsp] at hnew
      have hsz : (splice cur (off * e.s.cells) L).size = cur.size := splice_size (by omega)
      rcases hsame with ⟨E', fz, e1, e2⟩ | ⟨n, e1, e2⟩
      · subst e2
        have hEE : E' = E := by
          have ho := h.obj o
          rw [e1] at ho
          rcases ho with ⟨h1, _⟩ | ⟨g', C', a1, _, cur', ⟨fr, a2, _⟩, _⟩
          · rw [hr] at h1; cases h1
          · rw [hr] at a1; cases a1
            obtain ⟨fr', a3, _⟩ := hb
            rw [a2] at a3; cases a3; rfl
        subst hEE
        exact Tr.write h hmut hr hb' ho'.oth ho'.size ho'.os ho'.tape ho'.output (C := C) ⟨rfl, by rw [hsz, hcs], by rw [hlen']; exact hxC, hCm, by rw [hlen']; exact hnew⟩ (by rw [e1]; simp only [AObj.lay, hlen']) (by rw [e1]; simp only [AObj.shape, AObj.elems, Option.map_some, hlen']) rfl
      · subst e2
        have ho := h.obj o
        rw [e1] at ho
        obtain ⟨g', C', E', cur', a1, _, a3, a4, _, a6⟩ := ho
        rw [hr] at a1; cases a1
        have hcc : cur' = cur := by
          obtain ⟨fr, b1, _⟩ := a3
          obtain ⟨fr', b2, _⟩ := hb
          rw [b1] at b2; cases b2; rfl
        subst hcc
        have hC := (a6 e (by rw [← e1]; exact he)).1
        obtain ⟨hm, _⟩ := (a4 : RepC w (Avoid c.X H ρ) (.arr n e.s) e.xs _)
        have htk : (splice cur' (off * e.s.cells) L).toList.take (e.xs.length * e.s.cells) = (splice cur' (off * e.s.cells) L).toList := by
          apply List.take_of_length_le
          rw [Array.length_toList, hsz, hcs, hC]; exact Nat.le_refl _
        rw [htk] at hnew
        refine Tr.write h hmut hr hb' ho'.oth ho'.size ho'.os ho'.tape ho'.output (C := C) ⟨(⟨by rw [hlen']; exact hm, hnew⟩ : RepC w (Avoid c.X H ρ) (.arr n e.s) _ _), rfl, fun e' he' => ?_⟩ (by rw [e1]; rfl) (by rw [e1]; simp only [AObj.shape, AObj.elems, Option.map_some, hlen']) rfl
        rw [hob] at he'
        cases he'
        exact ⟨by rw [hlen']; exact hC, hCm⟩

theorem copy_ok (hΓ : GamOk P Γ) (h : StOk c w H ρ) {t ty : TypeId} {ts : Array TypeId} {x y v : AV} {xv yv : Value} {U : Upd} (h0 : ts[0]? = some t) (hx : RV w (Avoid c.X H ρ) H ρ x xv) (hy : RV w (Avoid c.X H ρ) H ρ y yv) (ha : aCopy Γ t x y H = some (true, v, U)) :
    Gives P c w H ρ (Builtin.copy_ ts ty #[xv, yv]) v U := by
  unfold aCopy at ha
  cases hel : Γ.elem t with
  | none => simp [hel] at ha
  | some es =>
    obtain ⟨E, s⟩ := es
    simp only [hel] at ha
    obtain ⟨hu, hE⟩ := elem_ok hΓ hel
    obtain ⟨i, z, hi, hiz, hzc, hsz, _, _⟩ := SchOk.info hE
    cases hsrc : srcElems H s y with
    | none => simp [hsrc] at ha
    | some ys =>
      simp only [hsrc] at ha
      obtain ⟨L, hS, hL⟩ := srcElemsN_ok (P := P) h hy hsrc
      rw [← hsz] at hS
      -- what is done for a destination in an object
      have key : ∀ (o off : Nat) (len : Option Nat) (xs : List s.T) (ob : AObj) (zs : List s.T), (ASt.obj H o).elems = some ⟨s, xs⟩ → (ASt.obj H o).mut = true → SlR H ρ o off len [xv] →
          zs = xs.take off ++ ys.take (min ys.length (len.getD xs.length)) ++ xs.drop (off + min ys.length (len.getD xs.length)) →
          ((∃ E, ASt.obj H o = .row E s xs false ∧ ob = .row E s zs false) ∨ (∃ n, ASt.obj H o = .box (.dat (.arr n s) xs) ∧ ob = .box (.dat (.arr n s) zs))) →
          Gives P c w H ρ (Builtin.copy_ ts ty #[xv, yv]) (.dat (.int .i64) ((min ys.length (len.getD xs.length) : Nat) : Int)) [(o, ob)] := by
        intro o off len xs ob zs he hmut hv hzs hsame
        have hv' := hv
        obtain ⟨_, hv'⟩ := hv'
        simp only [he] at hv'
        obtain ⟨ad, cap, hval, g1, g2, g3, _⟩ := hv'
        simp only [List.cons.injEq, and_true] at hval
        subst hval
        generalize hdl : len.getD xs.length = dl at *
        have hmin : (ys.take (min ys.length dl)).length = min ys.length dl := by simp
        have hL' := RepL.take (fun x c => RepC.length s) hL (min ys.length dl)
        have hzs' : zs = xs.take off ++ ys.take (min ys.length dl) ++ xs.drop (off + (ys.take (min ys.length dl)).length) := by rw [hmin]; exact hzs
        obtain ⟨w', hrun, hT⟩ := write_elems (P := P) h (e := ⟨s, xs⟩) he hmut hv hL' (by rw [hmin]; omega) (ob := ob) (by
          rcases hsame with ⟨E', _, rfl⟩ | ⟨n, _, rfl⟩ <;> (simp only [AObj.elems]; rw [hzs'])) (by
          rcases hsame with ⟨E', a1, a2⟩ | ⟨n, a1, a2⟩
          · exact .inl ⟨E', false, a1, by rw [a2, hzs']⟩
          · exact .inr ⟨n, a1, by rw [a2, hzs']⟩)
        have hmn : Nat.min ys.length dl = min ys.length dl := rfl
        refine ⟨.int .i64 (min ys.length dl : Nat), w', ρ, ?_, ?_, hT⟩
        · rw [run_copyN h0 hu hi hS, hsz, hmn]
          cases ad with
          | none => simp only [Result.ok.injEq, true_and] at hrun ⊢; exact hrun
          | some ad => simp only at hrun ⊢; rw [hrun]; rfl
        · have hm : min ys.length dl ≤ maxLen := by omega
          exact RV.mk_int (k := .i64) (a := ((min ys.length dl : Nat) : Int)) (wf_i64 hm)
      have fin : ∀ (o off : Nat) (len : Option Nat), SlR H ρ o off len [xv] →
          (match ASt.obj H o with
            | .row E' s' xs false => if h : s' = s then
                some (true, AV.dat (.int .i64) ((min ys.length (len.getD (castT (s := .slc s') (t := .slc s) (by rw [h]) xs).length) : Nat) : Int), [(o, AObj.row E' s ((castT (s := .slc s') (t := .slc s) (by rw [h]) xs).take off ++ ys.take (min ys.length (len.getD (castT (s := .slc s') (t := .slc s) (by rw [h]) xs).length)) ++ (castT (s := .slc s') (t := .slc s) (by rw [h]) xs).drop (off + min ys.length (len.getD (castT (s := .slc s') (t := .slc s) (by rw [h]) xs).length))) false)]) else none
            | .box (.dat (.arr n s') xs) => if h : s' = s then
                some (true, AV.dat (.int .i64) ((min ys.length (len.getD (castT (s := .slc s') (t := .slc s) (by rw [h]) xs).length) : Nat) : Int), [(o, AObj.box (.dat (.arr n s) ((castT (s := .slc s') (t := .slc s) (by rw [h]) xs).take off ++ ys.take (min ys.length (len.getD (castT (s := .slc s') (t := .slc s) (by rw [h]) xs).length)) ++ (castT (s := .slc s') (t := .slc s) (by rw [h]) xs).drop (off + min ys.length (len.getD (castT (s := .slc s') (t := .slc s) (by rw [h]) xs).length)))))]) else none
            | _ => none : Ans) = some (true, v, U) → Gives P c w H ρ (Builtin.copy_ ts ty #[xv, yv]) v U := by
        intro o off len hv hm
        split at hm
        · rename_i E' s' xs hob
          split at hm
          · rename_i hs
            subst hs
            simp only [castT, Option.some.injEq, Prod.mk.injEq, true_and] at hm
            obtain ⟨rfl, rfl⟩ := hm
            exact key o off len xs _ _ (by rw [hob]; rfl) (by rw [hob]; rfl) hv rfl (.inl ⟨E', hob, rfl⟩)
          · cases hm
        · rename_i n s' xs hob
          split at hm
          · rename_i hs
            subst hs
            simp only [castT, Option.some.injEq, Prod.mk.injEq, true_and] at hm
            obtain ⟨rfl, rfl⟩ := hm
            exact key o off len xs _ _ (by rw [hob]; rfl) (by rw [hob]; rfl) hv rfl (.inr ⟨n, hob, rfl⟩)
          · cases hm
        · cases hm
      split at ha
      · rename_i o
        exact fin o 0 none hx ha
      · rename_i o off len
        exact fin o off (some len) hx ha
      · cases ha

theorem minMax_ok (mx : Bool) (k : IntKind) : ∀ (r : List AV) (vs : List Value) (a b : IT k), r.length = vs.length → (∀ (i : Nat) (v : AV) (u : Value), r[i]? = some v → vs[i]? = some u → RV w (Avoid c.X H ρ) H ρ v u) →
    (Lit.int k (toI k a)).wf = true → aMinMax mx k a r = some b →
    (vs.foldlM (if mx then Builtin.max2 else Builtin.min2) (.int k (toI k a))).run P w = .ok (.int k (toI k b)) w ∧ (Lit.int k (toI k b)).wf = true
  | [], [], a, b, _, _, hw, ha => by
    simp only [aMinMax, Option.some.injEq] at ha
    subst ha
    exact ⟨by simp, hw⟩
  | [], _ :: _, _, _, h, _, _, _ => by simp at h
  | _ :: _, [], _, _, h, _, _, _ => by simp at h
  | v :: r, u :: vs, a, b, hl, hr, hw, ha => by
    unfold aMinMax at ha
    split at ha
    · cases ‹_ :: _ = []›
    · rename_i j y r' e
      simp only [List.cons.injEq] at e
      obtain ⟨rfl, rfl⟩ := e
      split at ha
      · rename_i hj
        subst hj
        simp only [castT] at ha
        obtain ⟨rfl, hwy⟩ := RV.int (hr 0 _ u rfl rfl)
        have hw' : (Lit.int j (toI j ((if mx then wMax else wMin) j a y))).wf = true := by
          cases mx
          · simp only [Bool.false_eq_true, if_false, wMin]; split <;> assumption
          · simp only [if_true, wMax]; split <;> assumption
        obtain ⟨g1, g2⟩ := minMax_ok mx j r vs _ b (by simpa using hl) (fun i v u hv hu => hr (i + 1) v u (by simpa using hv) (by simpa using hu)) hw' ha
        refine ⟨?_, g2⟩
        rw [List.foldlM_cons, Sem.run_bind]
        have hstep : ((if mx then Builtin.max2 else Builtin.min2) (.int j (toI j a)) (.int j (toI j y))).run P w = .ok (.int j (toI j ((if mx then wMax else wMin) j a y))) w := by
          cases mx
          · simp only [Bool.false_eq_true, if_false, Builtin.min2, wMin]
            split <;> rfl
          · simp only [if_true, Builtin.max2, wMax]
            split <;> rfl
        rw [hstep]
        exact g1
      · cases ha
    · cases ha
end
end Go.AI
