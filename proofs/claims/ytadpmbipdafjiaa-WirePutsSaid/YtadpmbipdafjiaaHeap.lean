/- Objects read, written, frozen. -/
import Derived.Test.YtadpmbipdafjiaaPath
namespace Go.AI
open Go Go.RowKit

section
variable {P : Program} {Γ : Gam} {c : Ctx} {w : World} {H H' : List AObj} {ρ : Rho} {o : Nat}

theorem av_lay {ob : AObj} (h : ob.live = true) : ob.lay = ob.av.lay := by cases ob <;> simp_all [AObj.live, AObj.lay, AObj.av, AV.lay, Sch.lay]

/-- An object's contents in memory. -/
theorem obj_in (h : StOk c w H ρ) {g C : Nat} (hl : (ASt.obj H o).live = true) (hr : ρ o = some (g, C)) :
    ∃ E cur K Z, Own c g ∧ Blk w g E cur ∧ cur.toList = K ++ Z ∧ RX w (Avoid c.X H ρ) H ρ (ASt.obj H o).av true K ∧ (ASt.obj H o).av.stands = true := by
  have ho := h.obj o
  cases hob : ASt.obj H o with
  | gone => rw [hob] at hl; simp [AObj.live] at hl
  | free => rw [hob] at hl; simp [AObj.live] at hl
  | row E s xs fz =>
    rw [hob] at ho
    rcases ho with ⟨h1, _⟩ | ⟨g', C', h1, h2, cur, h3, _, _, _, h7⟩
    · rw [hr] at h1; cases h1
    · rw [hr] at h1; cases h1
      exact ⟨E, cur, _, _, h2, h3, (List.take_append_drop _ _).symm, (⟨rfl, h7⟩ : RepC w (Avoid c.X H ρ) (.arr xs.length s) xs _), rfl⟩
  | box v =>
    rw [hob] at ho
    obtain ⟨g', C', E, cur, h1, h2, h3, h4, h5, _⟩ := ho
    rw [hr] at h1; cases h1
    exact ⟨E, cur, cur.toList, [], h2, h3, by simp, h4, h5⟩

theorem drop_take_prefix {α : Type} {K Z : List α} {off n : Nat} (h : off + n ≤ K.length) : ((K ++ Z).drop off).take n = (K.drop off).take n := by
  rw [List.drop_append_of_le_length (by omega), List.take_append_of_le_length (by rw [List.length_drop]; omega)]

theorem rv_valOf {A : Nat → Prop} {v : AV} {L : List Value} (h : RX w A H ρ v true L) : RV w A H ρ v (valOf v.agg L) := by
  cases ha : v.agg with
  | true => exact RV.agg_ ha h
  | false =>
    have hl := RX.length v h
    have hc : v.cells = 1 := by
      cases v <;> first | rfl | simp [AV.agg] at ha
      rename_i s x
      cases s <;> first | rfl | simp [Sch.agg] at ha
    rw [hc] at hl
    match L, hl with
    | [x], _ => exact RV.one ha h

/-- A load. -/
theorem load_val (hΓ : GamOk P Γ) (h : StOk c w H ρ) {t : TypeId} {x v : AV} {xv : Value} {U : Upd} (hx : RV w (Avoid c.X H ρ) H ρ x xv) (ha : aLoad Γ t x H = some (true, v, U)) :
    (∃ val, (Instr.loadAt t xv).run P w = .ok val w ∧ RV w (Avoid c.X H ρ) H ρ v val) ∧ U = [] := by
  unfold aLoad at ha
  cases hti : Γ.at_ t with
  | none => simp [hti] at ha
  | some ti =>
    simp only [hti] at ha
    have hT := hΓ t ti hti
    have key : ∀ (v' : AV) (ad : Addr) (L : List Value), RX w (Avoid c.X H ρ) H ρ v' true L → CellsAt w ad L → xv = .pointer (some ad) →
        (if (v'.stands && v'.cells == ti.cells && v'.agg == ti.agg) = true then some (true, v', ([] : Upd)) else none) = some (true, v, U) → (∃ val, (Instr.loadAt t xv).run P w = .ok val w ∧ RV w (Avoid c.X H ρ) H ρ v val) ∧ U = [] := by
      intro v' ad L hL hc hxv hif
      split at hif
      · rename_i hcond
        simp only [Bool.and_eq_true, beq_iff_eq] at hcond
        obtain ⟨⟨_, h2⟩, h3⟩ := hcond
        simp only [Option.some.injEq, Prod.mk.injEq, true_and] at hif
        obtain ⟨rfl, rfl⟩ := hif
        subst hxv
        refine ⟨⟨_, ?_, rv_valOf hL⟩, rfl⟩
        have := run_loadVar hT (w := w) (ad := ad) (L := L) (by rw [RX.length _ hL]; exact h2) hc
        rw [h3]
        simp [Instr.loadAt, Instr.sureAddr, this]
      · cases hif
    split at ha
    · rename_i o p
      have hx' : PtrR (ASt.obj H o) (ρ o) p [xv] := hx
      rcases hx' with ⟨hg, _⟩ | ⟨hl, g, C, off, l, hlay, hr, hcs⟩
      · rw [hg] at ha
        have : (AObj.get .gone p).stands = false := by
          unfold AObj.get
          have : ∀ p, (AV.dead.get p).stands = false := by
            intro p
            induction p with
            | nil => rfl
            | cons i p ih => cases i <;> exact ih
          exact this p
        simp [this] at ha
      · obtain ⟨E, cur, K, Z, hown, hb, hK, hrx, hst⟩ := obj_in h hl hr
        rw [av_lay hl] at hlay
        obtain ⟨g1, g2, g3⟩ := get_ok p _ hrx hlay
        have hc := CellsAt.of_blk hb off l.cells
        rw [hK, drop_take_prefix g3] at hc
        exact key _ _ _ g2 hc (by simpa using hcs) ha
    · rename_i s y
      obtain ⟨ad, L, hcs, _, _, hr, hc⟩ := (hx : ∃ ad L, [xv] = [Value.pointer (some ad)] ∧ ad.block < w.heap.size ∧ ¬ Avoid c.X H ρ ad.block ∧ RepC w (Avoid c.X H ρ) s y L ∧ CellsAt w ad L)
      exact key (.dat s y) ad L hr hc (by simpa using hcs) ha
    · cases ha

theorem load_ok (hΓ : GamOk P Γ) (h : StOk c w H ρ) {t : TypeId} {x v : AV} {xv : Value} {U : Upd} (hx : RV w (Avoid c.X H ρ) H ρ x xv) (ha : aLoad Γ t x H = some (true, v, U)) :
    Gives P c w H ρ (Instr.loadAt t xv) v U := by
  obtain ⟨⟨val, h1, h2⟩, rfl⟩ := load_val hΓ h hx ha
  exact Gives.same h h1 h2

/-- A store. -/
theorem put_in (hΓ : GamOk P Γ) (h : StOk c w H ρ) {t : TypeId} {ti : TI} (hti : Γ.at_ t = some ti) {p : List Nat} {u : AV} {xv uv : Value} {ob : AObj} (hx : RV w (Avoid c.X H ρ) H ρ (.ptr o p) xv)
    (hu : RX w (Avoid c.X H ρ) H ρ u true uv.cells.toList) (hus : u.stands = true) (huc : u.cells = ti.cells) (hp : (ASt.obj H o).put p u = some ob) :
    ∃ w', (Instr.storeAt t xv uv).run P w = .ok () w' ∧ Tr c w H ρ w' (H.set o ob) ρ := by
  have hT := hΓ t ti hti
  simp only [AObj.put, Option.bind_eq_some_iff] at hp
  obtain ⟨z, hz, hback⟩ := hp
  have hx' : PtrR (ASt.obj H o) (ρ o) p [xv] := hx
  rcases hx' with ⟨hg, _⟩ | ⟨hl, g, C, off, l, hlay, hr, hcs⟩
  · rw [hg] at hback; simp [AObj.back] at hback
  simp only [List.cons.injEq, and_true] at hcs
  subst hcs
  obtain ⟨E, cur, K, Z, hown, hb, hK, hrx, hst⟩ := obj_in h hl hr
  rw [av_lay hl] at hlay
  obtain ⟨g1, g2, g3⟩ := get_ok p _ hrx hlay
  obtain ⟨k1, k2, k3, k4⟩ := put_ok p _ u hrx hlay hz hus hst hu
  have hulen : uv.cells.toList.length = l.cells := by rw [hu.len, k3]
  have hucl : u.lay.cells = ti.cells := by rw [AV.lay_cells]; exact huc
  rw [k3] at hucl
  have hcl : cur.size = K.length + Z.length := by
    have := congrArg List.length hK
    simpa using this
  obtain ⟨w', hrun, hb', ho'⟩ := run_storeVar hT (w := w) (g := g) (off := off) hb (val := uv) (by rw [hulen, hucl]) (by omega) (RX.oneCell u hu)
  refine ⟨w', by simp [Instr.storeAt, Instr.sureAddr, hrun], ?_⟩
  have hsp : (splice cur off uv.cells.toList).toList = (K.take off ++ uv.cells.toList ++ K.drop (off + uv.cells.toList.length)) ++ Z := by
    simp only [splice, hK]
    rw [List.take_append_of_le_length (by omega), List.drop_append_of_le_length (by omega)]
    simp
  have hK' : (K.take off ++ uv.cells.toList ++ K.drop (off + uv.cells.toList.length)).length = K.length := by
    simp only [List.length_append, List.length_take, List.length_drop]; omega
  have hsz : (splice cur off uv.cells.toList).size = cur.size := splice_size (by omega)
  have ho := h.obj o
  cases hob : ASt.obj H o with
  | gone => rw [hob] at hl; simp [AObj.live] at hl
  | free => rw [hob] at hl; simp [AObj.live] at hl
  | row E' s xs fz =>
    rw [hob] at hback k1 ho hrx
    cases fz with
    | true => simp [AObj.back] at hback
    | false =>
      simp only [AObj.back] at hback
      split at hback
      · rename_i m s' ys
        split at hback
        · rename_i hs
          subst hs
          simp only [castT, Option.some.injEq] at hback
          subst hback
          obtain ⟨hm, hL⟩ := (k4 : RepC w (Avoid c.X H ρ) (.arr m s') ys _)
          have hmx : m = xs.length := by
            simp only [AV.lay, Sch.lay, AObj.av, Lay.arr.injEq, and_true] at k1; exact k1
          subst hmx
          rcases ho with ⟨h1, _⟩ | ⟨g', C', h1, h2, cur', h3, h4, h5, h6, h7⟩
          · rw [hr] at h1; cases h1
          · rw [hr] at h1; cases h1
            have hcc : cur' = cur ∧ E' = E := by
              obtain ⟨fr, a1, _⟩ := h3
              obtain ⟨fr', a2, _⟩ := hb
              rw [a1] at a2; cases a2; exact ⟨rfl, rfl⟩
            obtain ⟨rfl, rfl⟩ := hcc
            refine Tr.write h (n := o) (by rw [hob]; rfl) hr hb' ho'.oth ho'.size ho'.os ho'.tape ho'.output (C := C) ⟨rfl, by rw [hsz]; exact h4, by omega, h6, ?_⟩ (by rw [hob]; simp [AObj.lay, hm]) (by rw [hob]; simp [AObj.shape, AObj.elems, hm]) rfl
            have hlenL := RepL.length (fun x c => RepC.length s') hL
            rw [hsp, ← hlenL, List.take_left]
            exact hL
        · cases hback
      · cases hback
  | box v =>
    rw [hob] at hback k1 ho hrx
    simp only [AObj.back] at hback
    split at hback
    · rename_i hbs
      simp only [Option.some.injEq] at hback
      subst hback
      obtain ⟨g', C', E', cur', h1, h2, h3, h4, h5, h6⟩ := ho
      rw [hr] at h1; cases h1
      have hcc : cur' = cur ∧ E' = E := by
        obtain ⟨fr, a1, _⟩ := h3
        obtain ⟨fr', a2, _⟩ := hb
        rw [a1] at a2; cases a2; exact ⟨rfl, rfl⟩
      obtain ⟨rfl, rfl⟩ := hcc
      have hZ : Z = [] := by
        have e1 := h4.len
        have e2 := hrx.len
        simp only [AObj.av] at e2
        have : K.length = cur'.size := by rw [e2, ← e1]; simp
        exact List.eq_nil_of_length_eq_zero (by omega)
      subst hZ
      rw [List.append_nil] at hsp
      -- arrays keep their shape
      have hel : ∀ (y : AV) (L : List Value) (e : Elems), RX w (Avoid c.X H ρ) H ρ y true L → (AObj.box y).elems = some e → ∃ n, boxSch y = some (n, e.s) ∧ e.xs.length = n := by
        intro y L e hy he
        match y, he with
        | .dat (.arr n s) xs, he =>
          simp only [AObj.elems, Option.some.injEq] at he
          subst he
          exact ⟨n, rfl, (hy : RepC w (Avoid c.X H ρ) (.arr n s) xs L).1⟩
      have hshape : (AObj.box z).shape = (AObj.box v).shape := by
        simp only [AObj.shape]
        cases h1 : (AObj.box z).elems with
        | none =>
          cases h2 : (AObj.box v).elems with
          | none => rfl
          | some e =>
            obtain ⟨n, e1, _⟩ := hel v _ e h4 h2
            rw [← hbs] at e1
            match z, e1 with
            | .dat (.arr n' s') ys, _ => simp [AObj.elems] at h1
        | some e =>
          obtain ⟨n, e1, e2⟩ := hel z _ e k4 h1
          cases h2 : (AObj.box v).elems with
          | none =>
            rw [hbs] at e1
            match v, e1 with
            | .dat (.arr n' s') ys, _ => simp [AObj.elems] at h2
          | some e' =>
            obtain ⟨n', e1', e2'⟩ := hel v _ e' h4 h2
            rw [hbs, e1'] at e1
            simp only [Option.some.injEq, Prod.mk.injEq] at e1
            simp [e1.2, e2, e2', e1.1]
      refine Tr.write h (n := o) (by rw [hob]; rfl) hr hb' ho'.oth ho'.size ho'.os ho'.tape ho'.output (C := C) ⟨by rw [hsp]; exact k4, k2, fun e he => ?_⟩ (by rw [hob]; exact k1) (by rw [hob]; exact hshape) rfl
      have hs := hshape
      simp only [AObj.shape, he, Option.map_some] at hs
      cases h2 : (AObj.box v).elems with
      | none => rw [h2] at hs; simp at hs
      | some e' =>
        rw [h2] at hs
        simp only [Option.map_some, Option.some.injEq, Prod.mk.injEq] at hs
        have := h6 e' h2
        exact ⟨this.1.trans hs.2.symm, this.2⟩
    · cases hback
end
end Go.AI
