/- The scalar operations, and slots and operands. -/
import Derived.Test.YtadpmbipdafjiaaMem
namespace Go.AI
open Go Go.RowKit

theorem wf_wrap (k : IntKind) (n : Int) : (Lit.int k (k.wrap n)).wf = true := by
  cases k <;> simp [Lit.wf, IntKind.wrap, IntKind.min, IntKind.max, IntKind.signed, IntKind.bits] <;> omega
theorem toI_ofI {k : IntKind} {n : Int} (h : (Lit.int k n).wf = true) : toI k (ofI k n) = n := by
  cases k <;> simp [Lit.wf, IntKind.min, IntKind.max, IntKind.signed, IntKind.bits] at h <;> simp only [toI, ofI]
  · rw [UInt8.toNat_ofNat']; omega
  · rw [UInt32.toNat_ofNat']; omega
theorem toI_wrap (k : IntKind) (n : Int) : toI k (ofI k (k.wrap n)) = k.wrap n := toI_ofI (wf_wrap k n)

section
variable {w : World} {A : Nat → Prop} {H : List AObj} {ρ : Rho} {val : Value}
theorem RV.dat_ {s : Sch} {x : s.T} (h : RV w A H ρ (.dat s x) val) : if s.agg then ∃ cs, val = .agg cs.toArray ∧ RepC w A s x cs else RepC w A s x [val] := h
theorem RV.int {k : IntKind} {a : IT k} (h : RV w A H ρ (.dat (.int k) a) val) : val = .int k (toI k a) ∧ (Lit.int k (toI k a)).wf = true := by
  obtain ⟨h1, h2⟩ := (h.dat_ : RepC w A (.int k) a [val])
  exact ⟨by simpa using h1, h2⟩
theorem RV.bool {b : Bool} (h : RV w A H ρ (.dat .bool b) val) : val = .bool b := by
  have h1 : [val] = [Value.bool b] := h
  simpa using h1
theorem RV.str {b : List UInt8} (h : RV w A H ρ (.dat .str b) val) : val = .string ⟨b.toArray⟩ ∧ b.length ≤ maxLen := by
  obtain ⟨h1, h2⟩ := (h.dat_ : RepC w A .str b [val])
  exact ⟨by simpa using h1, h2⟩
theorem RV.mk_int {k : IntKind} {a : IT k} (h : (Lit.int k (toI k a)).wf = true) : RV w A H ρ (.dat (.int k) a) (.int k (toI k a)) := (⟨rfl, h⟩ : RepC w A (.int k) a [_])
theorem RV.mk_wrap (k : IntKind) (n : Int) : RV w A H ρ (.dat (.int k) (ofI k (k.wrap n))) (.int k (k.wrap n)) := by
  have h := RV.mk_int (w := w) (A := A) (H := H) (ρ := ρ) (k := k) (a := ofI k (k.wrap n)) (by rw [toI_wrap]; exact wf_wrap k n)
  rwa [toI_wrap] at h
theorem RV.mk_wf {k : IntKind} {n : Int} (h : (Lit.int k n).wf = true) : RV w A H ρ (.dat (.int k) (ofI k n)) (.int k n) := by
  have h' := RV.mk_int (w := w) (A := A) (H := H) (ρ := ρ) (k := k) (a := ofI k n) (by rw [toI_ofI h]; exact h)
  rwa [toI_ofI h] at h'
theorem RV.mk_bool (b : Bool) : RV w A H ρ (.dat .bool b) (.bool b) := (rfl : RepC w A .bool b [_])
theorem RV.dead_ (val : Value) : RV w A H ρ .dead val := trivial

theorem bytes_eta (s : ByteArray) : (⟨s.data.toList.toArray⟩ : ByteArray) = s := by cases s; simp
theorem constAV_ok (v : Value) : RV w A H ρ (constAV v) v := by
  unfold constAV
  split
  · split
    · rename_i h; exact RV.mk_wf h
    · trivial
  · exact RV.mk_bool _
  · split
    · rename_i s h
      exact (⟨by rw [bytes_eta s], by simpa using h⟩ : RepC w A .str s.data.toList [.string s])
    · trivial
  · exact (rfl : RX w A H ρ .nils true _)
  · exact (rfl : RX w A H ρ .nilfn true _)
  · trivial
end

/-- The slots of a frame. -/
structure FrOk (w : World) (A : Nat → Prop) (H : List AObj) (ρ : Rho) (cur : List AV) (tmps : Array Value) : Prop where
  size : tmps.size = cur.length
  at_ : ∀ i, RV w A H ρ (cur.getD i .dead) (tmps.getD i undef)

theorem FrOk.put {w : World} {A : Nat → Prop} {H : List AObj} {ρ : Rho} {cur : List AV} {a : Act} {d : Option Tmp} {v : AV} {val : Value} (h : FrOk w A H ρ cur a.tmps) (hv : RV w A H ρ v val) :
    FrOk w A H ρ (putDst cur d v) (a.put d val).tmps := by
  cases d with
  | none => exact h
  | some t =>
    refine ⟨by simp [Act.put, putDst, h.size], fun i => ?_⟩
    simp only [Act.put, putDst]
    by_cases hi : t = i
    · subst hi
      by_cases hlt : t < cur.length
      · have : t < a.tmps.size := by rw [h.size]; exact hlt
        simp [Array.getD, this, List.getD, hlt, hv]
      · have : ¬ t < a.tmps.size := by rw [h.size]; exact hlt
        simp only [List.getD, List.getElem?_set, hlt]
        simp; exact trivial
    · have e1 : (cur.set t v).getD i .dead = cur.getD i .dead := by simp [List.getD, List.getElem?_set_ne hi]
      have e2 : (a.tmps.setIfInBounds t val).getD i undef = a.tmps.getD i undef := by
        simp only [Array.getD_eq_getD_getElem?]
        rw [Array.getElem?_setIfInBounds_ne hi]
      rw [e1, e2]; exact h.at_ i

theorem opnd_ok {w : World} {A : Nat → Prop} {H : List AObj} {ρ : Rho} {cur : List AV} {a : Act} (h : FrOk w A H ρ cur a.tmps) (x : Operand) : RV w A H ρ (opnd cur x) (a.eval x) := by
  cases x with
  | tmp t => exact h.at_ t
  | const v => exact constAV_ok v
  | global g => trivial
  | func f => exact (⟨[], rfl, rfl⟩ : RX w A H ρ (.fn f .un) true _)

/-- What an operation gives: a value and the objects behind it. -/
def Gives (P : Program) (c : Ctx) (w : World) (H : List AObj) (ρ : Rho) (s : Sem Value) (v : AV) (U : Upd) : Prop :=
  ∃ val w' ρ', s.run P w = .ok val w' ∧ RV w' (Avoid c.X (upd H U) ρ') (upd H U) ρ' v val ∧ Tr c w H ρ w' (upd H U) ρ'

section
variable {P : Program} {c : Ctx} {w : World} {H : List AObj} {ρ : Rho} {s : Sem Value} {v : AV} {val : Value}
theorem Gives.same (h : StOk c w H ρ) (hs : s.run P w = .ok val w) (hv : RV w (Avoid c.X H ρ) H ρ v val) : Gives P c w H ρ s v [] :=
  ⟨val, w, ρ, hs, hv, Tr.refl h⟩

theorem wf_tmod {k : IntKind} {a b : Int} (h : (Lit.int k a).wf = true) : (Lit.int k (a.tmod b)).wf = true := by
  have h1 : (a.tmod b).natAbs ≤ a.natAbs := by rw [Int.natAbs_tmod]; exact Nat.mod_le _ _
  have h2 : 0 ≤ a → 0 ≤ a.tmod b := fun h => Int.tmod_nonneg _ h
  have h3 : a ≤ 0 → a.tmod b ≤ 0 := fun h => by
    have := Int.tmod_nonneg (a := -a) b (by omega)
    rw [Int.neg_tmod] at this; omega
  cases k <;> simp [Lit.wf, IntKind.min, IntKind.max, IntKind.signed, IntKind.bits] at h ⊢ <;> omega
theorem wf_fdiv {k : IntKind} {a : Int} {n : Nat} (h : (Lit.int k a).wf = true) : (Lit.int k (a.fdiv (2 ^ n))).wf = true := by
  have hp : (0 : Int) < 2 ^ n := Int.pow_pos (by omega)
  have h1 : 0 ≤ a → 0 ≤ a.fdiv (2 ^ n) ∧ a.fdiv (2 ^ n) ≤ a := fun h => ⟨Int.fdiv_nonneg h (by omega), by
    rw [Int.fdiv_eq_ediv_of_nonneg _ (by omega)]
    exact Int.ediv_le_self _ h⟩
  have h2 : a < 0 → a ≤ a.fdiv (2 ^ n) ∧ a.fdiv (2 ^ n) < 0 := fun h => by
    rw [Int.fdiv_eq_ediv_of_nonneg _ (by omega)]
    refine ⟨?_, Int.ediv_neg_of_neg_of_pos h hp⟩
    rw [Int.le_ediv_iff_mul_le hp]
    have : a * 2 ^ n ≤ a * 1 := Int.mul_le_mul_of_nonpos_left (by omega) (by omega)
    omega
  rcases Int.lt_or_le a 0 with h' | h'
  · have := h2 h'
    cases k <;> simp [Lit.wf, IntKind.min, IntKind.max, IntKind.signed, IntKind.bits] at h ⊢ <;> omega
  · have := h1 h'
    cases k <;> simp [Lit.wf, IntKind.min, IntKind.max, IntKind.signed, IntKind.bits] at h ⊢ <;> omega

theorem intBin_ok {op : BinOp} {k : IntKind} {a b : IT k} {cond : Bool} (ha : (Lit.int k (toI k a)).wf = true) (_hb : (Lit.int k (toI k b)).wf = true)
    (h : intBin op k a b = some (cond, v)) (hc : cond = true) (t : TypeId) :
    ∃ val, (binOp op t (.int k (toI k a)) (.int k (toI k b))).run P w = .ok val w ∧ ∀ A H ρ, RV w A H ρ v val := by
  cases op <;> simp only [intBin, Option.some.injEq, Prod.mk.injEq, reduceCtorEq] at h <;> obtain ⟨h1, rfl⟩ := h
  case add => exact ⟨_, by simp [binOp, Op.intArith], fun _ _ _ => RV.mk_wrap k _⟩
  case sub => exact ⟨_, by simp [binOp, Op.intArith], fun _ _ _ => RV.mk_wrap k _⟩
  case mul => exact ⟨_, by simp [binOp, Op.intArith], fun _ _ _ => RV.mk_wrap k _⟩
  case quo =>
    have hne : toI k b ≠ 0 := by rw [hc] at h1; simpa using h1
    exact ⟨_, by simp [binOp, Op.intDiv, hne], fun _ _ _ => RV.mk_wrap k _⟩
  case rem =>
    have hne : toI k b ≠ 0 := by rw [hc] at h1; simpa using h1
    exact ⟨_, by simp [binOp, Op.intDiv, hne], fun _ _ _ => RV.mk_wf (wf_tmod ha)⟩
  case and => exact ⟨_, by simp [binOp, Op.intBits], fun _ _ _ => RV.mk_wrap k _⟩
  case or => exact ⟨_, by simp [binOp, Op.intBits], fun _ _ _ => RV.mk_wrap k _⟩
  case xor => exact ⟨_, by simp [binOp, Op.intBits], fun _ _ _ => RV.mk_wrap k _⟩
  case andNot => exact ⟨_, by simp [binOp, Op.intBits], fun _ _ _ => RV.mk_wrap k _⟩
  case eql => exact ⟨_, by simp [binOp, Op.intCmp], fun _ _ _ => RV.mk_bool _⟩
  case neq => exact ⟨_, by simp [binOp, Op.intCmp], fun _ _ _ => RV.mk_bool _⟩
  case lss => exact ⟨_, by simp [binOp, Op.intCmp], fun _ _ _ => RV.mk_bool _⟩
  case leq => exact ⟨_, by simp [binOp, Op.intCmp], fun _ _ _ => RV.mk_bool _⟩
  case gtr => exact ⟨_, by simp [binOp, Op.intCmp], fun _ _ _ => RV.mk_bool _⟩
  case geq => exact ⟨_, by simp [binOp, Op.intCmp], fun _ _ _ => RV.mk_bool _⟩

theorem nonNeg_ok {k : IntKind} {n : Int} (hw : (Lit.int k n).wf = true) (h : nonNeg k n = true) : 0 ≤ n := by
  cases k <;> simp [nonNeg, Lit.wf, IntKind.min, IntKind.max, IntKind.signed, IntKind.bits] at h hw <;> omega

theorem shift_ok {op : BinOp} {k j : IntKind} {a : IT k} {b : IT j} (ha : (Lit.int k (toI k a)).wf = true) (hb : (Lit.int j (toI j b)).wf = true) (hn : nonNeg j (toI j b) = true) (t : TypeId) :
    (op = .shl → ∃ val, (binOp .shl t (.int k (toI k a)) (.int j (toI j b))).run P w = .ok val w ∧ ∀ A H ρ, RV w A H ρ (.dat (.int k) (wShl k a (toI j b))) val) ∧
    (op = .shr → ∃ val, (binOp .shr t (.int k (toI k a)) (.int j (toI j b))).run P w = .ok val w ∧ ∀ A H ρ, RV w A H ρ (.dat (.int k) (wShr k a (toI j b))) val) := by
  have h0 : ¬ toI j b < 0 := by have := nonNeg_ok hb hn; omega
  exact ⟨fun _ => ⟨_, by simp [binOp, Op.shift, h0], fun _ _ _ => RV.mk_wrap k _⟩, fun _ => ⟨_, by simp [binOp, Op.shift, h0], fun _ _ _ => RV.mk_wf (wf_fdiv ha)⟩⟩

end
end Go.AI
