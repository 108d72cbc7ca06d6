/- Runs of operations that call nothing, whatever else lies in memory. -/
import Derived.Test.YtlilfooddecabaaFragM2
import Derived.KernelRfl
namespace Go.AI
open Go Go.RowKit

/-- One operation that makes no object. -/
def fop (Γ : Gam) (o : Oper) (cur : List AV) : Option (Bool × AV) :=
  match aop false Γ o.op cur [] 0 with
  | some (c, v, []) => some (c, v)
  | _ => none
/-- The operations of a region, in their order. -/
def fops {R : Type} (Γ : Gam) (all : List Oper) : List Oper → List AV → (List AV → Option R) → Option R
  | [], cur, k => k cur
  | o :: rest, cur, k =>
    bif offGuard all cur o then fops Γ all rest (putDst cur o.dst und) k else
    match o.guard with
    | none => match fop Γ o cur with
      | some (c, v) => bif c then fops Γ all rest (putDst cur o.dst v) k else none
      | none => none
    | some (j, want) => match guardAt all cur j with
      | none => none
      | some (d, b) =>
        let way (v : Bool) : Option R :=
          let cur1 := cur.set d (.dat .bool v)
          if v == want then match fop Γ o cur1 with
            | some (c, u) => bif c then fops Γ all rest (putDst cur1 o.dst u) k else none
            | none => none
          else fops Γ all rest (putDst cur1 o.dst und) k
        bif b then way true else way false

/-- No object has a place. -/
abbrev r0 : Rho := fun _ => none
section
variable {P : Program} {Γ : Gam} {c : Ctx P} {w w' : World} {ρ ρ' : Rho} {a : Act} {R : Type}
/-- What is none of the call's business, where it has no objects. -/
abbrev Av (c : Ctx P) : Nat → Prop := Avoid c.X [] r0

theorem obj_nil (o : Nat) : ASt.obj [] o = .free := rfl
theorem av_nil {b : Nat} (h : Avoid c.X [] ρ b) : c.X b := by
  rcases h with h | ⟨o, C, h, _⟩
  · exact h
  · rw [obj_nil] at h; cases h
theorem compat_nil : Compat [] ρ [] ρ' := fun o h => absurd (obj_nil o) h
theorem st_nil (hf : Fr c w) (ho : ∀ b, c.X b → b < c.w0.heap.size) : StOk c w [] ρ :=
  ⟨fun o => trivial, fun o o' g C C' h => (by rw [obj_nil] at h; cases h), hf, ho⟩
theorem rv_nil {v : AV} {val : Value} (h : RV w (Avoid c.X [] ρ) [] ρ v val) : RV w (Av c) [] r0 v val :=
  RV.mono (Keeps.refl _ w) (fun _ _ hb => .inl (av_nil hb)) compat_nil h

theorem put_slot (a : Act) (d : Option Tmp) (v : Value) {t : Nat} (h : d ≠ some t) : (a.put d v).tmps.getD t undef = a.tmps.getD t undef := by
  cases d with
  | none => rfl
  | some x =>
    have hx : x ≠ t := fun e => h (by rw [e])
    simp only [Act.put, Array.getD_eq_getD_getElem?, Array.getElem?_setIfInBounds]
    rw [if_neg hx]

theorem fop_ok {o : Oper} {cur : List AV} {v : AV} (h : fop Γ o cur = some (true, v)) : aop false Γ o.op cur [] 0 = some (true, v, []) := by
  unfold fop at h
  split at h
  · rename_i c v' hx
    simp only [Option.some.injEq, Prod.mk.injEq] at h
    obtain ⟨rfl, rfl⟩ := h
    exact hx
  · cases h
theorem aop_noDefer {mv : Bool} {o : Oper} {cur : List AV} {H : List AObj} {nid : Nat} {x : Bool × AV × Upd} (h : aop mv Γ o.op cur H nid = some x) : noDefer o := by
  intro k e
  rw [e] at h
  cases h

/-- Such operations keep every block, and every slot that they do not write. -/
theorem fops_ok (hΓ : GamOk P Γ) {rd : Option Nat} {ops : Array Oper} {all : List Oper} (hops : ops.toList = all) {k : List AV → Option R} {r : R} {Q : Exit → Act → World → Prop} {post : List Oper} :
    ∀ (pre : List Oper) {cur : List AV} {a : Act} {w : World} {ρ : Rho}, fops Γ all pre cur k = some r → StOk c w [] ρ → FrOk w (Avoid c.X [] ρ) [] ρ cur a.tmps →
      (∀ cur' a' w' ρ', k cur' = some r → Tr c w [] ρ w' [] ρ' → FrOk w' (Avoid c.X [] ρ') [] ρ' cur' a'.tmps → a'.defers = a.defers →
        (∀ t, (∀ o, o ∈ pre → o.dst ≠ some t) → a'.tmps.getD t undef = a.tmps.getD t undef) → wpListIn (Fe rd) 0 P ops Q post a' w') → wpListIn (Fe rd) 0 P ops Q (pre ++ post) a w
  | [], cur, a, w, ρ, hx, h, hf, hn => hn cur a w ρ hx (Tr.refl h) hf rfl (fun _ _ => rfl)
  | o :: pre, cur, a, w, ρ, hx, h, hf, hn => by
    simp only [fops] at hx
    rw [List.cons_append]
    unfold wpListIn
    have off : ∀ {x : List AV}, fops Γ all pre (putDst cur o.dst und) k = some r → wpListIn (Fe rd) 0 P ops Q (pre ++ post) (a.put o.dst undef) w := fun {_} hx =>
      fops_ok hΓ hops pre hx h (hf.put und_rv) (fun cur' a' w' ρ' hk T k1 k2 k3 => hn cur' a' w' ρ' hk T k1 (k2.trans (put_defers a o.dst undef)) (fun t ht =>
        (k3 t (fun o' ho' => ht o' (List.mem_cons_of_mem _ ho'))).trans (put_slot a o.dst undef (ht o List.mem_cons_self))))
    have step : ∀ {cc : Bool} {v : AV}, fop Γ o cur = some (cc, v) → (bif cc then fops Γ all pre (putDst cur o.dst v) k else none) = some r → o.wpIn (Fe rd) 0 P a w (wpListIn (Fe rd) 0 P ops Q (pre ++ post)) Q := by
      intro cc v hv hx
      rcases bif_some' hx with ⟨rfl, hx⟩ | ⟨_, hx⟩
      · have ha := fop_ok hv
        refine aop_ok hΓ h hf ha (aop_noDefer ha) rd _ Q (fun val w' ρ' hv' T => ?_)
        have T : Tr c w [] ρ w' [] ρ' := T
        have hv' : RV w' (Avoid c.X [] ρ') [] ρ' v val := hv'
        refine fops_ok hΓ hops pre hx T.ok ((hf.mono fun _ _ => T.rv).put hv') (fun cur' a' w2 ρ2 hk T2 k1 k2 k3 => hn cur' a' w2 ρ2 hk (T.trans T2) k1 (k2.trans (put_defers a o.dst val)) (fun t ht =>
          (k3 t (fun o' ho' => ht o' (List.mem_cons_of_mem _ ho'))).trans (put_slot a o.dst val (ht o List.mem_cons_self))))
      · cases hx
    rcases bif_some' hx with ⟨hoff, hx⟩ | ⟨_, hx⟩
    · rw [if_neg (by rw [off_val hops hoff hf]; decide)]
      exact ⟨fun _ _ => trivial, off (x := cur) hx⟩
    split at hx
    · rename_i hg
      rw [if_pos (by simp [Region.wanted, hg])]
      split at hx
      · rename_i cc v hv
        exact step hv hx
      · cases hx
    · rename_i j want hg
      split at hx
      · cases hx
      · rename_i d b hgd
        obtain ⟨hy, hcd, _⟩ := guard_val (w := w) (H := []) (ρ := ρ) hops hgd hf
        have hw : Region.wanted o (yielded ops a.tmps) = (b == want) := by simp [Region.wanted, hg, hy]
        have hx' : (if (b == want) = true then match fop Γ o (cur.set d (.dat .bool b)) with
            | some (cc, u) => bif cc then fops Γ all pre (putDst (cur.set d (.dat .bool b)) o.dst u) k else none
            | none => none
          else fops Γ all pre (putDst (cur.set d (.dat .bool b)) o.dst und) k) = some r := by
          cases b <;> exact hx
        rw [set_self hcd] at hx'
        rw [hw]
        split at hx'
        · rename_i hbw
          rw [if_pos hbw]
          split at hx'
          · rename_i cc v hv
            exact step hv hx'
          · cases hx'
        · rename_i hbw
          rw [if_neg hbw]
          exact ⟨fun _ _ => trivial, off (x := cur) hx'⟩
end
end Go.AI
