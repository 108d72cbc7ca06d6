/- More slices; clear. -/
import Derived.Test.YtadpmbipdafjiaaCopy
import Derived.Test.YtadpmbipdafjiaaCut
namespace Go.AI
open Go Go.RowKit

section
variable {P : Program} {Γ : Gam} {c : Ctx} {w : World} {H H' : List AObj} {ρ : Rho} {o : Nat} {cur : List AV} {a : Act}

theorem run_bound {k : IntKind} {i : Int} {y : Nat} {code : BoundsCode} (h0 : 0 ≤ i) (hy : i.toNat ≤ y) : (Instr.sliceBound (.int k i) y code).run P w = .ok i.toNat w := by
  have : i ≤ (y : Int) := by omega
  simp [Instr.sliceBound, asIntOf, h0, this]
theorem run_bounds3 {isS : Bool} {len cap : Nat} {vlo vhi vmx : Option Value} {lo : Option Int} {u : Int} (h1 : BndIs vlo lo) (h2 : BndIs vhi (some u)) (h3 : BndIs vmx (some u)) (hok : okCut len lo (some u) = true) (hc : len ≤ cap) :
    (Instr.sliceBounds isS len cap vlo vhi vmx).run P w = .ok (loOf lo, u.toNat, u.toNat) w := by
  obtain ⟨b1, b2, b3, b4⟩ := okCut_bounds hok
  have hu := b4 u rfl
  simp only [hiOf] at b1 b2
  obtain ⟨k, rfl⟩ := h2
  obtain ⟨j, rfl⟩ := h3
  cases lo with
  | none =>
    obtain rfl : vlo = none := h1
    simp [Instr.sliceBounds, run_bound (P := P) (w := w) (k := j) hu (show u.toNat ≤ cap by omega), run_bound (P := P) (w := w) (k := k) hu (Nat.le_refl u.toNat), loOf]
  | some l =>
    obtain ⟨q, rfl⟩ := h1
    simp only [loOf] at b1
    simp [Instr.sliceBounds, run_bound (P := P) (w := w) (k := j) hu (show u.toNat ≤ cap by omega), run_bound (P := P) (w := w) (k := k) hu (Nat.le_refl u.toNat), run_bound (P := P) (w := w) (k := q) (b3 l rfl) b1, loOf]

theorem repC_cut3 {A : Nat → Prop} {s : Sch} {xs : List s.T} {ad : Option Addr} {len cap : Nat} {lo : Option Int} {u : Int} (hok : okCut xs.length lo (some u) = true) (h : RepC w A (.slc s) xs [.slice ad len cap]) :
    ∃ a', [Value.slice (if u.toNat = loOf lo then ad else ad.map (·.add (loOf lo * s.cells))) (u.toNat - loOf lo) (u.toNat - loOf lo)] = [Value.slice a' (cut xs lo (some u)).length (cut xs lo (some u)).length] ∧
      RepC w A (.slc s) (cut xs lo (some u)) [Value.slice (if u.toNat = loOf lo then ad else ad.map (·.add (loOf lo * s.cells))) (u.toNat - loOf lo) (u.toNat - loOf lo)] := by
  obtain ⟨ad', cap', e, h1, h2, h3⟩ := h
  simp only [List.cons.injEq, Value.slice.injEq, and_true] at e
  obtain ⟨rfl, rfl, rfl⟩ := e
  obtain ⟨b1, b2, b3, b4⟩ := okCut_bounds hok
  simp only [hiOf] at b1 b2
  have hlen : (cut xs lo (some u)).length = u.toNat - loOf lo := by rw [cut_eq hok]; simp [hiOf]; omega
  refine ⟨_, by rw [hlen], _, _, by rw [hlen], by rw [hlen]; exact Nat.le_refl _, by omega, ?_⟩
  by_cases hn : u.toNat - loOf lo = 0
  · left; exact List.eq_nil_of_length_eq_zero (by rw [hlen, hn])
  right
  rcases h3 with h3 | ⟨a, L, rfl, hb, hA, hr, hc⟩
  · subst h3; simp only [List.length_nil] at *; omega
  rw [if_neg (by omega), cut_eq hok]
  refine ⟨a.add (loOf lo * s.cells), _, rfl, by rw [Addr.add_block]; exact hb, by rw [Addr.add_block]; exact hA, RepL.take (fun x c => RepC.length s) (RepL.drop (fun x c => RepC.length s) hr (loOf lo)) _, ?_⟩
  intro j v hu
  rw [addr_add_add]
  rw [List.getElem?_take] at hu
  split at hu
  · rw [List.getElem?_drop] at hu; exact hc _ _ hu
  · cases hu

theorem slice3_ok (hΓ : GamOk P Γ) (h : StOk c w H ρ) {t : TypeId} {x hi mx v : AV} {lo : Option AV} {xv vh vm : Value} {vlo : Option Value} (hx : RV w (Avoid c.X H ρ) H ρ x xv) (hl : ∀ b, bnd lo = some b → BndIs vlo b) (hh : ∀ b, bnd (some hi) = some b → BndIs (some vh) b) (hm : ∀ b, bnd (some mx) = some b → BndIs (some vm) b)
    (ha : aSlice3 Γ t x lo hi mx = some (true, v)) : Gives P c w H ρ (Instr.sliceAt t xv vlo (some vh) (some vm)) v [] := by
  unfold aSlice3 at ha
  split at ha
  · rename_i l u m el eu em
    have h1 := hl _ el
    have h2 := hh _ eu
    have h3 := hm _ em
    have fin : ∀ {s : Sch} {xs : List s.T}, Γ.sliceOf t s.cells = true → (okCut xs.length l (some u) && (m == u)) = true → RepC w (Avoid c.X H ρ) (.slc s) xs [xv] → Gives P c w H ρ (Instr.sliceAt t xv vlo (some vh) (some vm)) (.slx s (cut xs l (some u))) [] := by
      intro s xs ht hok hr
      simp only [Bool.and_eq_true, beq_iff_eq] at hok
      obtain ⟨hok, rfl⟩ := hok
      obtain ⟨ad, cap, hval, hc, _⟩ := RepC.slice hr
      rw [hval] at hr ⊢
      obtain ⟨e, ti, hu, hT, hsz⟩ := sliceOf_ok hΓ ht
      refine Gives.same h (val := .slice (if m.toNat = loOf l then ad else ad.map (·.add (loOf l * s.cells))) (m.toNat - loOf l) (m.toNat - loOf l)) ?_ (repC_cut3 hok hr)
      simp [Instr.sliceAt, Instr.slice, run_underlying hu, run_bounds3 (P := P) (w := w) h1 h2 h3 hok hc, run_sizeOf hT, hsz]
    split at ha
    · rename_i s xs
      obtain ⟨ht, ha⟩ := ite_some ha
      simp only [Option.some.injEq, Prod.mk.injEq] at ha
      obtain ⟨hok, rfl⟩ := ha
      exact fin ht hok hx
    · rename_i s xs
      obtain ⟨ht, ha⟩ := ite_some ha
      simp only [Option.some.injEq, Prod.mk.injEq] at ha
      obtain ⟨hok, rfl⟩ := ha
      obtain ⟨ad, hval, hr⟩ := (hx : ∃ ad, [xv] = [Value.slice ad xs.length xs.length] ∧ RepC w (Avoid c.X H ρ) (.slc s) xs [xv])
      exact fin ht hok hr
    · cases ha
  · cases ha

theorem arrOf_ok (hΓ : GamOk P Γ) {t : TypeId} {n k : Nat} (h : Γ.arrOf t n k = true) : ∃ e ti, P.underlying t = some (.array n e) ∧ TIOk P Γ e ti ∧ ti.cells = k := by
  unfold Gam.arrOf at h
  split at h
  · rename_i m e cl sc ht
    split at h
    · rename_i ti hti
      obtain ⟨i, d, _, hu, _, hk⟩ := (hΓ t _ ht).info
      have hd : d = .array m e := hk
      subst hd
      simp only [Bool.and_eq_true] at h
      have h1 := Nat.eq_of_beq_eq_true h.1
      subst h1
      exact ⟨e, ti, hu, hΓ e ti hti, Nat.eq_of_beq_eq_true h.2⟩
    · cases h
  · cases h

theorem sliceA_ok (hΓ : GamOk P Γ) (h : StOk c w H ρ) {t : TypeId} {o : Nat} {v : AV} {lo hi : Option AV} {xv : Value} {vlo vhi : Option Value} (hx : RV w (Avoid c.X H ρ) H ρ (.ptr o []) xv) (hl : ∀ b, bnd lo = some b → BndIs vlo b) (hh : ∀ b, bnd hi = some b → BndIs vhi b)
    (ha : aSliceA Γ H t o lo hi = some (true, v)) : Gives P c w H ρ (Instr.sliceAt t xv vlo vhi none) v [] := by
  unfold aSliceA at ha
  split at ha
  · rename_i l u n s xs el eu hob
    obtain ⟨ht, ha⟩ := ite_some ha
    simp only [Option.some.injEq, Prod.mk.injEq] at ha
    obtain ⟨hok, rfl⟩ := ha
    have h1 := hl _ el
    have h2 := hh _ eu
    obtain ⟨e, ti, hu, hT, hsz⟩ := arrOf_ok hΓ ht
    rcases (hx : PtrR (ASt.obj H o) (ρ o) [] [xv]) with ⟨hg, _⟩ | ⟨_, g, C, off, ly, hly, hr, hcs⟩
    · rw [hob] at hg; cases hg
    · simp only [Lay.at_, Option.some.injEq, Prod.mk.injEq] at hly
      obtain ⟨rfl, _⟩ := hly
      simp only [List.cons.injEq, and_true] at hcs
      subst hcs
      have ho := h.obj o
      rw [hob] at ho
      obtain ⟨g', C', E, cur', a1, _, _, a4, _, a6⟩ := ho
      rw [hr] at a1; cases a1
      obtain ⟨hxn, _⟩ := (a4 : RepC w (Avoid c.X H ρ) (.arr n s) xs _)
      obtain ⟨hC, hCm⟩ := a6 ⟨s, xs⟩ rfl
      simp only at hC
      obtain ⟨b1, b2, b3, b4⟩ := okCut_bounds hok
      refine Gives.same h (val := .slice (some (if n = loOf l then ⟨g, 0, none⟩ else (⟨g, 0, none⟩ : Addr).add (loOf l * s.cells))) (hiOf n u - loOf l) (n - loOf l)) ?_ ?_
      · simp [Instr.sliceAt, run_underlying hu, Instr.sureAddr, run_bounds (P := P) (w := w) h1 h2 hok (Nat.le_refl n), run_sizeOf hT, hsz]
      · refine (⟨by rw [hob]; simp, ?_⟩ : SlR H ρ o (loOf l) (some (hiOf n u - loOf l)) [_])
        have he : (ASt.obj H o).elems = some ⟨s, xs⟩ := by rw [hob]; rfl
        simp only [he, Option.getD_some]
        refine ⟨_, _, rfl, by omega, by omega, by omega, ?_⟩
        rw [hr]
        simp only
        refine ⟨by omega, ?_⟩
        by_cases hn : n = loOf l
        · left; omega
        · right
          rw [if_neg hn, add_lit, Nat.zero_add]
  · cases ha

theorem sliceX_ok (hΓ : GamOk P Γ) (h : StOk c w H ρ) (hfr : FrOk w (Avoid c.X H ρ) H ρ cur a.tmps) {t : TypeId} {x : Operand} {lo hi mx : Option Operand} {v : AV}
    (ha : aSliceX Γ H t (opnd cur x) (lo.map (opnd cur)) (hi.map (opnd cur)) (mx.map (opnd cur)) = some (true, v)) :
    Gives P c w H ρ (Instr.sliceAt t (a.eval x) (lo.map a.eval) (hi.map a.eval) (mx.map a.eval)) v [] := by
  have hb : ∀ (y : Option Operand) b, bnd (y.map (opnd cur)) = some b → BndIs (y.map a.eval) b := fun y b hy => bnd_ok hfr hy
  cases mx with
  | some m =>
    simp only [Option.map_some, aSliceX] at ha
    cases hi with
    | none => cases ha
    | some u =>
      simp only [Option.map_some] at ha
      exact slice3_ok hΓ h (opnd_ok hfr x) (hb lo) (hb (some u)) (hb (some m)) ha
  | none =>
    simp only [Option.map_none, aSliceX] at ha
    split at ha
    · rename_i o e
      have hx := opnd_ok hfr x
      rw [e] at hx
      exact sliceA_ok hΓ h hx (hb lo) (hb hi) ha
    · exact slice_ok hΓ h hfr (mx := none) ha

theorem zerosN (z : Value) {s : Sch} (hz : z.cells.toList = zcells s) (n : Nat) : RepL (RepC w (Avoid c.X H ρ) s) (List.replicate n s.dflt) (Builtin.zeroCells z.cells n).toList := by
  have hlen : z.cells.size = s.cells := by rw [← Array.length_toList, hz]; exact RepC.length s (RepC.zero w (fun _ => False) s)
  have e : (Builtin.zeroCells z.cells n).toList = (List.replicate n (zcells s)).flatten := by
    rw [← hz]
    simp only [Builtin.zeroCells, Array.toList_map, Array.toList_range]
    induction n with
    | zero => simp
    | succ n ih =>
      rw [List.replicate_succ', List.flatten_append, ← ih, Nat.succ_mul, List.range_add, List.map_append]
      congr 1
      simp only [List.map_map, List.flatten_cons, List.flatten_nil, List.append_nil]
      apply List.ext_getElem?
      intro i
      rw [List.getElem?_map]
      rcases Nat.lt_or_ge i z.cells.size with hlt | hge
      · rw [List.getElem?_range hlt, Option.map_some, Function.comp, Nat.mul_comm n, Nat.mul_add_mod, Nat.mod_eq_of_lt hlt]
        simp [hlt]
      · rw [List.getElem?_eq_none (by simpa using hge), List.getElem?_eq_none (by simpa using hge)]; rfl
  rw [e]
  clear e
  induction n with
  | zero => simp [RepL]
  | succ n ih => exact ⟨_, _, rfl, RepC.zero _ _ s, ih⟩

theorem clear_ok (hΓ : GamOk P Γ) (h : StOk c w H ρ) {t ty : TypeId} {x v : AV} {xv : Value} {U : Upd} (hx : RV w (Avoid c.X H ρ) H ρ x xv) (ha : aClear Γ t x H = some (true, v, U)) :
    Gives P c w H ρ (Builtin.clear_ #[t] ty #[xv]) v U := by
  unfold aClear at ha
  cases hel : Γ.elem t with
  | none => simp [hel] at ha
  | some es =>
    obtain ⟨E, s⟩ := es
    simp only [hel] at ha
    obtain ⟨hu, hE⟩ := elem_ok hΓ hel
    obtain ⟨i, z, hi, hiz, hzc, hsz, _, _⟩ := SchOk.info hE
    have hzv : ∀ w, (zeroValue E).run P w = .ok z w := fun w => by simp [zeroValue, typeInfo, hi, hiz]
    have key : ∀ (o off : Nat) (len : Option Nat) (E' : TypeId) (xs : List s.T), ASt.obj H o = .row E' s xs false → SlR H ρ o off len [xv] →
        Gives P c w H ρ (Builtin.clear_ #[t] ty #[xv]) (.tup .un) [(o, .row E' s (xs.take off ++ List.replicate (len.getD xs.length) s.dflt ++ xs.drop (off + len.getD xs.length)) false)] := by
      intro o off len E' xs hob hv
      have he : (ASt.obj H o).elems = some ⟨s, xs⟩ := by rw [hob]; rfl
      have hv' := hv
      obtain ⟨_, hv'⟩ := hv'
      simp only [he] at hv'
      obtain ⟨ad, cap, hval, g1, g2, g3, g4⟩ := hv'
      simp only [List.cons.injEq, and_true] at hval
      subst hval
      generalize hdl : len.getD xs.length = n at *
      have hL := zerosN (c := c) (w := w) (H := H) (ρ := ρ) z hzc n
      obtain ⟨w', hrun, hT⟩ := write_elems (P := P) h (e := ⟨s, xs⟩) he (by rw [hob]; rfl) hv (ys := List.replicate n s.dflt) hL (by simp) (ob := .row E' s (xs.take off ++ List.replicate n s.dflt ++ xs.drop (off + n)) false)
        (by simp [AObj.elems]) (.inl ⟨E', false, hob, by simp⟩)
      refine ⟨.tuple #[], w', ρ, ?_, ⟨[], rfl, rfl⟩, hT⟩
      have h0 : (#[t] : Array TypeId)[0]? = some t := rfl
      cases ad with
      | none =>
        simp only [Result.ok.injEq, true_and] at hrun
        subst hrun
        simp [Builtin.clear_, run_underlying hu]
      | some p =>
        simp only at hrun
        cases n with
        | zero =>
          have hw : w' = w := by
            have e0 : (Builtin.zeroCells z.cells 0).toList = [] := by simp [Builtin.zeroCells]
            rw [e0] at hrun
            simp [storeCells] at hrun
            exact hrun.symm
          subst hw
          simp [Builtin.clear_, run_underlying hu]
        | succ n => simp [Builtin.clear_, run_underlying hu, hzv, hrun]
    have fin : ∀ (o off : Nat) (len : Option Nat), SlR H ρ o off len [xv] → (match ASt.obj H o with
      | .row E' s' xs false => if h : s' = s then
          let ys : List s.T := castT (s := .slc s') (t := .slc s) (by rw [h]) xs
          let n := len.getD ys.length
          some (true, AV.tup .un, [(o, AObj.row E' s (ys.take off ++ List.replicate n s.dflt ++ ys.drop (off + n)) false)])
        else none
      | _ => none : Ans) = some (true, v, U) → Gives P c w H ρ (Builtin.clear_ #[t] ty #[xv]) v U := by
      intro o off len hv hm
      split at hm
      · rename_i E' s' xs hob
        split at hm
        · rename_i hs
          subst hs
          simp only [castT, Option.some.injEq, Prod.mk.injEq, true_and] at hm
          obtain ⟨rfl, rfl⟩ := hm
          exact key o off len E' xs hob hv
        · cases hm
      · cases hm
    split at ha
    · exact fin _ 0 none hx ha
    · exact fin _ _ (some _) hx ha
    · cases ha
end
end Go.AI
