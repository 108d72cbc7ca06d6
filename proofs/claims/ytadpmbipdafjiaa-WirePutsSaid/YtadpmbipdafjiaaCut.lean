/- Slices cut. -/
import Derived.Test.YtadpmbipdafjiaaMore
namespace Go.AI
open Go Go.RowKit

theorem addr_add_add (a : Addr) (i j : Nat) : (a.add i).add j = a.add (i + j) := by
  unfold Addr.add
  by_cases hi : i = 0
  · subst hi; simp
  · by_cases hj : j = 0
    · subst hj; simp [hi]
    · rw [if_neg hi, if_neg hj, if_neg (by omega)]; simp [Nat.add_assoc]

def BndIs (v : Option Value) : Option Int → Prop
  | none => v = none
  | some i => ∃ k, v = some (.int k i)

theorem okCut_bounds {n : Nat} {lo hi : Option Int} (h : okCut n lo hi = true) : loOf lo ≤ hiOf n hi ∧ hiOf n hi ≤ n ∧ (∀ l, lo = some l → 0 ≤ l) ∧ (∀ u, hi = some u → 0 ≤ u) := by
  cases lo <;> cases hi <;> simp [okCut, loOf, hiOf] at h ⊢ <;> omega
theorem cut_eq {α : Type} {xs : List α} {lo hi : Option Int} (h : okCut xs.length lo hi = true) : cut xs lo hi = (xs.drop (loOf lo)).take (hiOf xs.length hi - loOf lo) := by
  cases lo <;> cases hi <;> simp [cut, loOf, hiOf]
  · rename_i l
    rw [List.take_of_length_le]; simp
  · rename_i l u
    rw [List.drop_take]

section
variable {P : Program} {Γ : Gam} {c : Ctx} {w : World} {H H' : List AObj} {ρ : Rho} {o : Nat} {cur : List AV} {a : Act}

theorem bnd_ok (hfr : FrOk w (Avoid c.X H ρ) H ρ cur a.tmps) {x : Option Operand} {b : Option Int} (h : bnd (x.map (opnd cur)) = some b) : BndIs (x.map a.eval) b := by
  cases x with
  | none => simp only [Option.map_none, bnd, Option.some.injEq] at h; subst h; rfl
  | some x =>
    have hv := opnd_ok hfr x
    simp only [Option.map_some] at h ⊢
    generalize opnd cur x = v at h hv
    unfold bnd at h
    split at h
    · rename_i e; cases e
    · rename_i k y e
      simp only [Option.some.injEq] at e h
      subst e; subst h
      exact ⟨k, by rw [(RV.int hv).1]⟩
    · cases h

theorem run_bounds {isS : Bool} {len cap : Nat} {vlo vhi : Option Value} {lo hi : Option Int} (h1 : BndIs vlo lo) (h2 : BndIs vhi hi) (hok : okCut len lo hi = true) (hc : len ≤ cap) :
    (Instr.sliceBounds isS len cap vlo vhi none).run P w = .ok (loOf lo, hiOf len hi, cap) w := by
  obtain ⟨b1, b2, b3, b4⟩ := okCut_bounds hok
  have key : ∀ (k : IntKind) (i : Int) (y : Nat) (code : BoundsCode), 0 ≤ i → i.toNat ≤ y → (Instr.sliceBound (.int k i) y code).run P w = .ok i.toNat w := by
    intro k i y code h0 hy
    have : i ≤ (y : Int) := by omega
    simp [Instr.sliceBound, asIntOf, h0, this]
  cases lo with
  | none =>
    have e1 : vlo = none := h1
    subst e1
    cases hi with
    | none =>
      have e2 : vhi = none := h2
      subst e2
      simp [Instr.sliceBounds, loOf, hiOf]
    | some u =>
      obtain ⟨k, e2⟩ := h2
      subst e2
      simp only [hiOf] at b2
      simp [Instr.sliceBounds, key k u cap _ (b4 u rfl) (by omega), loOf, hiOf]
  | some l =>
    obtain ⟨j, e1⟩ := h1
    subst e1
    cases hi with
    | none =>
      have e2 : vhi = none := h2
      subst e2
      simp only [loOf, hiOf] at b1
      simp [Instr.sliceBounds, key j l len _ (b3 l rfl) (by omega), loOf, hiOf]
    | some u =>
      obtain ⟨k, e2⟩ := h2
      subst e2
      simp only [loOf, hiOf] at b1 b2
      simp [Instr.sliceBounds, key k u cap _ (b4 u rfl) (by omega), key j l u.toNat _ (b3 l rfl) (by omega), loOf, hiOf]

theorem sliceOf_ok (hΓ : GamOk P Γ) {t : TypeId} {n : Nat} (h : Γ.sliceOf t n = true) : ∃ e ti, P.underlying t = some (.slice e) ∧ TIOk P Γ e ti ∧ ti.cells = n := by
  unfold Gam.sliceOf at h
  split at h
  · rename_i e cl sc ht
    split at h
    · rename_i ti hti
      obtain ⟨i, d, _, hu, _, hk⟩ := (hΓ t _ ht).info
      have hd : d = .slice e := hk
      subst hd
      exact ⟨e, ti, hu, hΓ e ti hti, by simpa using h⟩
    · cases h
  · cases h

/-- A slice is cut. -/
theorem run_cut (hΓ : GamOk P Γ) {t : TypeId} {n : Nat} (h : Γ.sliceOf t n = true) {ad : Option Addr} {len cap : Nat} {vlo vhi : Option Value} {lo hi : Option Int} (h1 : BndIs vlo lo) (h2 : BndIs vhi hi) (hok : okCut len lo hi = true) (hc : len ≤ cap) :
    (Instr.sliceAt t (.slice ad len cap) vlo vhi none).run P w = .ok (.slice (if cap = loOf lo then ad else ad.map (·.add (loOf lo * n))) (hiOf len hi - loOf lo) (cap - loOf lo)) w := by
  obtain ⟨e, ti, hu, hT, rfl⟩ := sliceOf_ok hΓ h
  simp [Instr.sliceAt, Instr.slice, run_underlying hu, run_bounds (P := P) (w := w) h1 h2 hok hc, run_sizeOf hT]

theorem RepC.cut {A : Nat → Prop} {s : Sch} {xs : List s.T} {ad : Option Addr} {len cap : Nat} {lo hi : Option Int} (hok : okCut xs.length lo hi = true) (h : RepC w A (.slc s) xs [.slice ad len cap]) :
    len = xs.length ∧ len ≤ cap ∧ RepC w A (.slc s) (cut xs lo hi) [.slice (if cap = loOf lo then ad else ad.map (·.add (loOf lo * s.cells))) (hiOf len hi - loOf lo) (cap - loOf lo)] := by
  obtain ⟨ad', cap', e, h1, h2, h3⟩ := h
  simp only [List.cons.injEq, Value.slice.injEq, and_true] at e
  obtain ⟨rfl, rfl, rfl⟩ := e
  obtain ⟨b1, b2, b3, b4⟩ := okCut_bounds hok
  refine ⟨rfl, h1, ?_⟩
  rw [cut_eq hok]
  have hlen : ((xs.drop (loOf lo)).take (hiOf xs.length hi - loOf lo)).length = hiOf xs.length hi - loOf lo := by simp; omega
  refine ⟨_, _, by rw [hlen], by rw [hlen]; omega, by omega, ?_⟩
  by_cases hn : hiOf xs.length hi - loOf lo = 0
  · left; rw [hn]; simp
  right
  rcases h3 with h3 | ⟨a, L, rfl, hb, hA, hr, hc⟩
  · subst h3; simp only [List.length_nil] at *; omega
  rw [if_neg (by omega)]
  refine ⟨a.add (loOf lo * s.cells), _, rfl, by rw [Addr.add_block]; exact hb, by rw [Addr.add_block]; exact hA, RepL.take (fun x c => RepC.length s) (RepL.drop (fun x c => RepC.length s) hr (loOf lo)) _, ?_⟩
  intro j u hu
  rw [addr_add_add]
  rw [List.getElem?_take] at hu
  split at hu
  · rw [List.getElem?_drop] at hu; exact hc _ _ hu
  · cases hu

theorem slR_cut {off n : Nat} {len : Option Nat} {ad : Option Addr} {l cap : Nat} {e : Elems} {lo hi : Option Int} (he : (ASt.obj H o).elems = some e) (hlen : len.getD e.xs.length = n) (hok : okCut n lo hi = true) (h : SlR H ρ o off len [.slice ad l cap]) :
    l = n ∧ l ≤ cap ∧ SlR H ρ o (off + loOf lo) (some (hiOf n hi - loOf lo)) [.slice (if cap = loOf lo then ad else ad.map (·.add (loOf lo * e.s.cells))) (hiOf n hi - loOf lo) (cap - loOf lo)] := by
  obtain ⟨h0, h⟩ := h
  simp only [he] at h
  rw [hlen] at h
  obtain ⟨a', cap', hv, h1, h2, h3, h4⟩ := h
  simp only [List.cons.injEq, Value.slice.injEq, and_true] at hv
  obtain ⟨rfl, rfl, rfl⟩ := hv
  obtain ⟨b1, b2, b3, b4⟩ := okCut_bounds hok
  refine ⟨rfl, h2, h0, ?_⟩
  simp only [he, Option.getD_some]
  refine ⟨_, _, rfl, by omega, by omega, by omega, ?_⟩
  cases hr : ρ o with
  | none =>
    rw [hr] at h4
    simp only at h4 ⊢
    omega
  | some gC =>
    rw [hr] at h4
    simp only at h4 ⊢
    refine ⟨by omega, ?_⟩
    by_cases hc : cap = loOf lo
    · left; omega
    · right
      rcases h4.2 with h5 | h5
      · omega
      · rw [if_neg hc, h5]
        simp only [Option.map_some, Option.some.injEq]
        rw [add_lit, Nat.add_mul]

theorem slice_ok (hΓ : GamOk P Γ) (h : StOk c w H ρ) (hfr : FrOk w (Avoid c.X H ρ) H ρ cur a.tmps) {t : TypeId} {x : Operand} {lo hi mx : Option Operand} {v : AV}
    (ha : aSlice Γ H t (opnd cur x) (lo.map (opnd cur)) (hi.map (opnd cur)) (mx.map (opnd cur)) = some (true, v)) :
    Gives P c w H ρ (Instr.sliceAt t (a.eval x) (lo.map a.eval) (hi.map a.eval) (mx.map a.eval)) v [] := by
  unfold aSlice at ha
  split at ha
  · rename_i l u hl hu hmx
    have e3 : mx = none := by simpa using hmx
    subst e3
    have h1 := bnd_ok hfr hl
    have h2 := bnd_ok hfr hu
    have hv := opnd_ok hfr x
    generalize opnd cur x = xv at ha hv
    split at ha
    · rename_i b
      split at ha
      · rename_i ht
        simp only [Option.some.injEq, Prod.mk.injEq] at ha
        obtain ⟨hok, rfl⟩ := ha
        obtain ⟨hval, hm⟩ := RV.str hv
        have hty : P.underlying t = some .string := by
          simp only [Gam.sch, beq_iff_eq] at ht
          cases hg : Γ.at_ t with
          | none => simp [hg] at ht
          | some ti => simp only [hg, Option.bind_some] at ht; exact ((hΓ t ti hg).sch _ ht).1.2
        have hsz : (⟨b.toArray⟩ : ByteArray).size = b.length := by simp [ByteArray.size]
        have hb := run_bounds (P := P) (w := w) (isS := false) (len := (⟨b.toArray⟩ : ByteArray).size) (cap := (⟨b.toArray⟩ : ByteArray).size) h1 h2 (by rw [hsz]; exact hok) (Nat.le_refl _)
        have hex : (⟨b.toArray⟩ : ByteArray).extract (loOf l) (hiOf b.length u) = ⟨(cut b l u).toArray⟩ := by
          rw [cut_eq hok]
          apply ByteArray.ext
          apply Array.ext'
          simp [ByteArray.data_extract]
        refine Gives.same h (val := .string ⟨(cut b l u).toArray⟩) ?_ ?_
        · rw [hval]
          rw [hsz] at hb
          simp [Instr.sliceAt, Instr.slice, run_underlying hty, hsz, hb, hex]
        · refine (⟨rfl, ?_⟩ : RepC _ _ .str (cut b l u) [_])
          obtain ⟨_, b2, _⟩ := okCut_bounds hok
          rw [cut_eq hok, List.length_take, List.length_drop]; omega
      · cases ha
    · rename_i s xs
      split at ha
      · rename_i ht
        simp only [Option.some.injEq, Prod.mk.injEq] at ha
        obtain ⟨hok, rfl⟩ := ha
        have hr : RepC w (Avoid c.X H ρ) (.slc s) xs [a.eval x] := hv
        obtain ⟨ad, cap, hval, hc, _⟩ := RepC.slice hr
        rw [hval] at hr ⊢
        exact Gives.same h (run_cut hΓ ht h1 h2 hok hc) (RepC.cut hok hr).2.2
      · cases ha
    · rename_i s xs
      split at ha
      · rename_i ht
        simp only [Option.some.injEq, Prod.mk.injEq] at ha
        obtain ⟨hok, rfl⟩ := ha
        obtain ⟨ad, hval, hr⟩ := (hv : ∃ ad, [a.eval x] = [Value.slice ad xs.length xs.length] ∧ RepC w (Avoid c.X H ρ) (.slc s) xs [a.eval x])
        simp only [List.cons.injEq, and_true] at hval
        rw [hval] at hr ⊢
        have hrc := (RepC.cut hok hr).2.2
        refine Gives.same h (run_cut hΓ ht h1 h2 hok (Nat.le_refl _)) ?_
        cases u with
        | some u => exact hrc
        | none =>
          have e : (cut xs l none).length = xs.length - loOf l := by rw [cut_eq hok]; simp [hiOf]
          refine (⟨if xs.length = loOf l then ad else ad.map (·.add (loOf l * s.cells)), ?_, hrc⟩ : ∃ ad', [Value.slice (if xs.length = loOf l then ad else ad.map (·.add (loOf l * s.cells))) (hiOf xs.length none - loOf l) (xs.length - loOf l)] = [Value.slice ad' (cut xs l none).length (cut xs l none).length] ∧ _)
          rw [e]; rfl
      · cases ha
    · rename_i o
      split at ha
      · rename_i e he
        split at ha
        · rename_i ht
          simp only [Option.some.injEq, Prod.mk.injEq] at ha
          obtain ⟨hok, rfl⟩ := ha
          have hr : SlR H ρ o 0 none [a.eval x] := hv
          have hr' := hr
          obtain ⟨_, hr'⟩ := hr'
          simp only [he] at hr'
          obtain ⟨ad, cap, hval, _, hc, _⟩ := hr'
          simp only [List.cons.injEq, and_true, Option.getD_none] at hval hc
          rw [hval] at hr ⊢
          have := (slR_cut (len := none) (n := e.xs.length) he rfl hok hr).2.2
          simp only [Nat.zero_add] at this
          exact Gives.same h (run_cut hΓ ht h1 h2 hok hc) this
        · cases ha
      · cases ha
    · rename_i o off n
      split at ha
      · rename_i e he
        split at ha
        · rename_i ht
          simp only [Option.some.injEq, Prod.mk.injEq] at ha
          obtain ⟨hok, rfl⟩ := ha
          have hr : SlR H ρ o off (some n) [a.eval x] := hv
          have hr' := hr
          obtain ⟨_, hr'⟩ := hr'
          simp only [he] at hr'
          obtain ⟨ad, cap, hval, _, hc, _⟩ := hr'
          simp only [List.cons.injEq, and_true, Option.getD_some] at hval hc
          rw [hval] at hr ⊢
          have := (slR_cut (len := some n) (n := n) he rfl hok hr).2.2
          exact Gives.same h (run_cut hΓ ht h1 h2 hok hc) this
        · cases ha
      · cases ha
    · cases ha
  · cases ha
end
end Go.AI
