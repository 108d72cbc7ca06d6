/- The small operations. -/
import Derived.Test.YtadpmbipdafjiaaIndex
namespace Go.AI
open Go Go.RowKit

section
variable {P : Program} {Γ : Gam} {c : Ctx} {w : World} {H H' : List AObj} {ρ : Rho} {o : Nat} {cur : List AV} {a : Act}

theorem sch_ok (hΓ : GamOk P Γ) {t : TypeId} {s : Sch} (h : Γ.sch t = some s) : SchOk P t s := by
  unfold Gam.sch at h
  cases hg : Γ.at_ t with
  | none => simp [hg] at h
  | some ti => simp only [hg, Option.bind_some] at h; exact ((hΓ t ti hg).sch _ h).1

theorem ty_ok (hΓ : GamOk P Γ) {t : TypeId} (h : (Γ.at_ t).isNone = false) : ∃ d, P.underlying t = some d := by
  cases hg : Γ.at_ t with
  | none => simp [hg] at h
  | some ti =>
    obtain ⟨_, d, _, hu, _⟩ := (hΓ t ti hg).info
    exact ⟨d, hu⟩

theorem wf_i64 {n : Nat} (h : n ≤ maxLen) : (Lit.int .i64 (n : Int)).wf = true := by
  simp only [maxLen] at h
  simp [Lit.wf, IntKind.min, IntKind.max, IntKind.signed, IntKind.bits]; omega

/-- len. -/
theorem len_ok (hΓ : GamOk P Γ) (h : StOk c w H ρ) {t ty : TypeId} {x : AV} {xv : Value} {n : Nat} (hx : RV w (Avoid c.X H ρ) H ρ x xv) (ht : lenTy Γ t x = true) (hn : lenOf H x = some n) :
    Gives P c w H ρ (Builtin.len_ #[t] ty #[xv]) (.dat (.int .i64) (n : Int)) [] := by
  have hres : n ≤ maxLen → RV w (Avoid c.X H ρ) H ρ (.dat (.int .i64) (n : Int)) (.int .i64 n) := fun hm => RV.mk_int (k := .i64) (a := (n : Int)) (wf_i64 hm)
  rcases lenOf_ok h hx hn with ⟨b, rfl, rfl, rfl, hm⟩ | ⟨ad, cap, rfl, hm, _⟩
  · have hty : P.underlying t = some .string := (sch_ok hΓ (by simpa [lenTy] using ht) : SchOk P t .str).2
    refine Gives.same h ?_ (hres hm)
    have hsz : (⟨b.toArray⟩ : ByteArray).size = b.length := by simp [ByteArray.size]
    simp only [Builtin.len_, List.getElem?_toArray, List.getElem?_cons_zero, Sem.run_bind, run_underlying hty, Result.andThen_ok, goInt, hsz]
    rfl
  · have hty : ∃ e, P.underlying t = some (.slice e) := by
      unfold lenTy at ht
      split at ht
      · exfalso
        obtain ⟨h1, _⟩ := RV.str hx
        cases h1
      · split at ht
        · rename_i e cl sc hg
          exact ⟨e, slice_ty hΓ hg⟩
        · cases ht
    obtain ⟨e, hty⟩ := hty
    refine Gives.same h ?_ (hres hm)
    simp [Builtin.len_, run_underlying hty, goInt]

theorem run_eqGuard {op : BinOp} {t : TypeId} {xo yo : Operand} {p q : Value} (h1 : ∀ A, p ≠ .agg A) (h2 : p ≠ .nilIface) : (eqGuard op t xo yo p q).run P w = .ok () w := by
  unfold eqGuard
  split <;> first
    | rfl
    | (simp only [Bool.not_true, Bool.false_eq_true, if_false]
       split
       · exact absurd rfl h2
       · exact absurd rfl (h1 _)
       · rfl)

theorem run_equal_bool {t : TypeId} (hty : P.underlying t = some .bool) (a b : Bool) : (Op.equal t (.bool a) (.bool b)).run P w = .ok (a == b) w := by
  show (Op.equalIn (9999 + 1) t (.bool a) (.bool b)).run P w = _
  rw [Op.equalIn, Sem.run_bind, run_underlying hty]
  rfl

/-- A scalar that is built of two. -/
theorem binOp_ok (hΓ : GamOk P Γ) (h : StOk c w H ρ) {op : BinOp} {t : TypeId} {x y v : AV} {xo yo : Operand} {xv yv : Value} (hx : RV w (Avoid c.X H ρ) H ρ x xv) (hy : RV w (Avoid c.X H ρ) H ρ y yv) (ha : aBin Γ t op x y = some (true, v)) :
    Gives P c w H ρ (do eqGuard op t xo yo xv yv; binOp op t xv yv) v [] := by
  have hg : ∀ {p q : Value}, (∀ A, p ≠ .agg A) → p ≠ .nilIface → (eqGuard op t xo yo p q).run P w = .ok () w := fun h1 h2 => run_eqGuard h1 h2
  unfold aBin at ha
  split at ha
  · rename_i k a j b
    obtain ⟨rfl, wa⟩ := RV.int hx
    obtain ⟨rfl, wb⟩ := RV.int hy
    have hgd := hg (p := .int k (toI k a)) (q := .int j (toI j b)) (by simp) (by simp)
    have key : ∀ {val : Value}, (binOp op t (.int k (toI k a)) (.int j (toI j b))).run P w = .ok val w → (do eqGuard op t xo yo (.int k (toI k a)) (.int j (toI j b)); binOp op t (.int k (toI k a)) (.int j (toI j b)) : Sem Value).run P w = .ok val w := by
      intro val hb
      simp [hgd, hb]
    split at ha
    · simp only [Option.some.injEq, Prod.mk.injEq] at ha
      obtain ⟨hn, rfl⟩ := ha
      obtain ⟨val, h1, h2⟩ := (shift_ok (P := P) (w := w) (op := .shl) wa wb hn t).1 rfl
      exact Gives.same h (key h1) (h2 _ _ _)
    · simp only [Option.some.injEq, Prod.mk.injEq] at ha
      obtain ⟨hn, rfl⟩ := ha
      obtain ⟨val, h1, h2⟩ := (shift_ok (P := P) (w := w) (op := .shr) wa wb hn t).2 rfl
      exact Gives.same h (key h1) (h2 _ _ _)
    · split at ha
      · rename_i hjk
        subst hjk
        obtain ⟨val, h1, h2⟩ := intBin_ok (P := P) (w := w) wa wb ha rfl t
        exact Gives.same h (key h1) (h2 _ _ _)
      · cases ha
  · rename_i a b
    obtain ⟨rfl, _⟩ := RV.str hx
    obtain ⟨rfl, _⟩ := RV.str hy
    have hgd := hg (p := .string ⟨a.toArray⟩) (q := .string ⟨b.toArray⟩) (by simp) (by simp)
    unfold strBin at ha
    split at ha
    · simp only [Option.some.injEq, Prod.mk.injEq, true_and] at ha
      subst ha
      refine Gives.same h (val := .bool (a == b)) ?_ (RV.mk_bool _)
      simp [hgd, binOp, Op.stringOp]
    · simp only [Option.some.injEq, Prod.mk.injEq, true_and] at ha
      subst ha
      refine Gives.same h (val := .bool (!(a == b))) ?_ (RV.mk_bool _)
      simp [hgd, binOp, Op.stringOp]
    · cases ha
  · rename_i a b
    obtain rfl := RV.bool hx
    obtain rfl := RV.bool hy
    have hgd := hg (p := .bool a) (q := .bool b) (by simp) (by simp)
    obtain ⟨ht, ha⟩ := ite_some ha
    have hty : P.underlying t = some .bool := (sch_ok hΓ (by simpa using ht) : SchOk P t .bool).2
    split at ha
    · simp only [Option.some.injEq, Prod.mk.injEq, true_and] at ha
      subst ha
      refine Gives.same h (val := .bool (a == b)) ?_ (RV.mk_bool _)
      simp [hgd, binOp, run_equal_bool hty]
    · simp only [Option.some.injEq, Prod.mk.injEq, true_and] at ha
      subst ha
      refine Gives.same h (val := .bool (!(a == b))) ?_ (RV.mk_bool _)
      simp [hgd, binOp, run_equal_bool hty]
    · cases ha
  · cases ha

/-- A scalar that is built of one. -/
theorem unOp_ok (h : StOk c w H ρ) {op : UnOp} {x v : AV} {xv : Value} (hx : RV w (Avoid c.X H ρ) H ρ x xv) (ha : aUn op x = some v) : Gives P c w H ρ (Op.unary op xv) v [] := by
  unfold aUn at ha
  split at ha
  · rename_i k a
    obtain ⟨rfl, _⟩ := RV.int hx
    simp only [Option.some.injEq] at ha
    subst ha
    exact Gives.same h (by simp [Op.unary, Op.intArith]) (RV.mk_wrap k _)
  · rename_i k a
    obtain ⟨rfl, _⟩ := RV.int hx
    simp only [Option.some.injEq] at ha
    subst ha
    exact Gives.same h (by simp [Op.unary, Op.intBits]) (RV.mk_wrap k _)
  · rename_i b
    obtain rfl := RV.bool hx
    simp only [Option.some.injEq] at ha
    subst ha
    exact Gives.same h (by simp [Op.unary]) (RV.mk_bool _)
  · cases ha

/-- A new variable. -/
theorem box_ok (h : StOk c w H ρ) {t : TypeId} {x : AV} {xv : Value} {nid : Nat} {U : Upd} (hx : RX w (Avoid c.X H ρ) H ρ x true xv.cells.toList) (hs : x.stands = true) (hm : ∀ e, (AObj.box x).elems = some e → e.xs.length ≤ maxLen) (hU : newObj? H nid (.box x) = some U) :
    Gives P c w H ρ (do pure (.pointer (some (← newVar t xv)))) (.ptr nid []) U := by
  obtain ⟨hnl, hfree, rfl⟩ := newObj_some hU
  let C := match (AObj.box x).elems with | some e => e.xs.length | none => 0
  have T := Tr.alloc h hnl hfree (ob := .box x) (cur := xv.cells) (E := t) (fr := (0, 0)) (C := C) (.inl rfl) ⟨hx, hs, fun e he => ⟨by simp [C, he], by simp [C, he]; exact hm e he⟩⟩
  refine ⟨.pointer (some ⟨w.heap.size, 0, none⟩), _, _, ?_, ?_, T⟩
  · simp [newVar, newRow]
  · refine (.inr ⟨?_, w.heap.size, C, 0, x.lay, ?_, updR_same _ _, rfl⟩ : PtrR _ _ [] [_])
    · show (ASt.obj (H.set nid (.box x)) nid).live = true
      rw [obj_set_same hnl]; rfl
    · show (ASt.obj (H.set nid (.box x)) nid).lay.at_ [] = _
      rw [obj_set_same hnl]; rfl
end
end Go.AI
