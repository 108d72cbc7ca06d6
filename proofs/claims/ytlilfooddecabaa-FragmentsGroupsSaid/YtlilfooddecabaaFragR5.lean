/- Steps by hand: single operations, regions, the end. -/
import Derived.Test.YtlilfooddecabaaFragR4
namespace Go.AI
open Go Go.RowKit

section
variable {P : Program} {Γ : Gam} {c : Ctx P} {w1 w w' : World} {ρ ρ' : Rho} {a : Act} {rd : Option Nat} {ops : Array Oper} {Q : Exit → Act → World → Prop} {rest : List Oper} {o : Oper}

theorem put_hit (a : Act) {t : Nat} (v : Value) (h : t < a.tmps.size) : (a.put (some t) v).tmps.getD t undef = v := by
  simp [Act.put, Array.getD_eq_getD_getElem?, h]
theorem put_size (a : Act) (d : Option Tmp) (v : Value) : (a.put d v).tmps.size = a.tmps.size := by
  cases d <;> simp [Act.put]

theorem raw_gives (hg : o.guard = none) (hd : noDefer o) {s : Sem Value} {val : Value} (he : execOp a.eval o = (do pure (.value (← s)))) (hr : s.run P w = .ok val w') (hn : wpListIn (Fe rd) 0 P ops Q rest (a.put o.dst val) w') : wpListIn (Fe rd) 0 P ops Q (o :: rest) a w := by
  unfold wpListIn
  rw [if_pos (by simp [Region.wanted, hg])]
  refine ⟨fun _ _ => trivial, ?_⟩
  rw [semAt_eq hd, he, Sem.run_bind, hr]
  exact hn
theorem raw_move (hg : o.guard = none) {x : Operand} (hop : o.op = .move x ∨ o.op = .assign x) (hn : wpListIn (Fe rd) 0 P ops Q rest (a.put o.dst (a.eval x)) w) : wpListIn (Fe rd) 0 P ops Q (o :: rest) a w := by
  unfold wpListIn
  rw [if_pos (by simp [Region.wanted, hg])]
  refine ⟨fun _ _ => trivial, ?_⟩
  rcases hop with hop | hop
  · rw [semAt_eq (fun k e => by rw [hop] at e; cases e), show execOp a.eval o = pure (.value (a.eval x)) by simp [execOp, hop]]
    exact hn
  · rw [semAt_eq (fun k e => by rw [hop] at e; cases e), show execOp a.eval o = pure (.value (a.eval x)) by simp [execOp, hop]]
    exact hn
theorem raw_index (hΓ : GamOk P Γ) (hg : o.guard = none) {t e cl : Nat} {sc : Option Sch} {q : Bool} {x i : Operand} (hop : o.op = .indexAddr t x i) (ht : Γ.at_ t = some ⟨.slice e, cl, sc, q⟩) {ti : TI} (hti : Γ.at_ e = some ti) (h1 : ti.cells = 1)
    {g len cap n : Nat} (hx : a.eval x = .slice (some ⟨g, 0, none⟩) len cap) (hi : a.eval i = .int .i64 (n : Int)) (hlt : n < len) (hn : wpListIn (Fe rd) 0 P ops Q rest (a.put o.dst (.pointer (some ⟨g, n, none⟩))) w) : wpListIn (Fe rd) 0 P ops Q (o :: rest) a w := by
  refine raw_gives hg (fun k e => by rw [hop] at e; cases e) (s := Instr.indexAt t (a.eval x) (a.eval i)) (by simp [execOp, hop]) (w' := w) ?_ hn
  rw [hx, hi, run_indexSlice (slice_ty hΓ ht) (hΓ e ti hti) (by omega) (by omega), add_lit, h1]
  simp
theorem raw_load (hΓ : GamOk P Γ) (hg : o.guard = none) {t : Nat} {x : Operand} (hop : o.op = .load t x) {ti : TI} (hti : Γ.at_ t = some ti) (h1 : ti.cells = 1) (h2 : ti.agg = false)
    {g n : Nat} {E : TypeId} {cur : Array Value} {val : Value} (hx : a.eval x = .pointer (some ⟨g, n, none⟩)) (hb : Blk w g E cur) (hv : cur.toList[n]? = some val) (hn : wpListIn (Fe rd) 0 P ops Q rest (a.put o.dst val) w) : wpListIn (Fe rd) 0 P ops Q (o :: rest) a w := by
  refine raw_gives hg (fun k e => by rw [hop] at e; cases e) (s := Instr.loadAt t (a.eval x)) (by simp [execOp, hop]) (w' := w) ?_ hn
  have hc := CellsAt.of_blk hb n 1
  have e : (cur.toList.drop n).take 1 = [val] := by
    rw [List.take_one, List.head?_drop, hv]; rfl
  rw [e] at hc
  have := run_loadVar (hΓ t ti hti) (L := [val]) (by rw [h1]; rfl) hc
  rw [h2] at this
  simp [Instr.loadAt, Instr.sureAddr, hx, this, valOf]
theorem raw_store (hΓ : GamOk P Γ) (hg : o.guard = none) {t : Nat} {x y : Operand} (hop : o.op = .store t x y) {ti : TI} (hti : Γ.at_ t = some ti) (h1 : ti.cells = 1)
    {g n : Nat} {E : TypeId} {cur : Array Value} {val : Value} (hx : a.eval x = .pointer (some ⟨g, n, none⟩)) (hy : a.eval y = val) (hv : val.cells.toList = [val]) (hv1 : val.oneCell' = true) (hb : Blk w g E cur) (hlt : n < cur.size)
    (hn : ∀ w', OnlyBlk g w w' → Blk w' g E (splice cur n [val]) → wpListIn (Fe rd) 0 P ops Q rest (a.put o.dst undef) w') : wpListIn (Fe rd) 0 P ops Q (o :: rest) a w := by
  obtain ⟨w', hr, hb', ho⟩ := run_storeVar (hΓ t ti hti) (off := n) hb (val := val) (by rw [hv, h1]; rfl) (by omega) (fun u hu => by rw [hv] at hu; rw [List.mem_singleton.1 hu]; exact hv1)
  rw [hv] at hb'
  unfold wpListIn
  rw [if_pos (by simp [Region.wanted, hg])]
  refine ⟨fun _ _ => trivial, ?_⟩
  rw [semAt_eq (fun k e => by rw [hop] at e; cases e), show execOp a.eval o = (do Instr.storeAt t (a.eval x) (a.eval y); pure .skip) by simp [execOp, hop], Sem.run_bind]
  have : (Instr.storeAt t (a.eval x) (a.eval y)).run P w = .ok () w' := by simp [Instr.storeAt, Instr.sureAddr, hx, hy, hr]
  rw [this]
  exact hn w' ho hb'
theorem raw_build (hΓ : GamOk P Γ) (hg : o.guard = none) {t E0 : TypeId} {s : Sch} {y : Operand} (hop : o.op = .buildSlice t 1 #[(0, y)]) (hel : Γ.elem t = some (E0, s)) (h1 : s.cells = 1) {x : Value} (hy : a.eval y = x) (hx : x.cells.toList = [x])
    (hn : wpListIn (Fe rd) 0 P ops Q rest (a.put o.dst (.slice (some ⟨w.heap.size, 0, none⟩) 1 1)) (w.alloc (.cells #[x] E0))) : wpListIn (Fe rd) 0 P ops Q (o :: rest) a w := by
  refine raw_gives hg (fun k e => by rw [hop] at e; cases e) (s := Instr.buildSlice t 1 #[(0, x)]) (by simp [execOp, hop, hy]) ?_ hn
  exact build_one hΓ hel h1 hx
theorem raw_append (hg : o.guard = none) {t : TypeId} {x y : Operand} (hop : o.op = .call { callee := .builtin .append, args := #[x, y], argTypes := #[t, t] }) {xv yv val : Value} (hx : a.eval x = xv) (hy : a.eval y = yv)
    (hr : (Builtin.append_ #[t, t] o.type #[xv, yv]).run P w = .ok val w') (hn : wpListIn (Fe rd) 0 P ops Q rest (a.put o.dst val) w') : wpListIn (Fe rd) 0 P ops Q (o :: rest) a w :=
  raw_gives hg (fun k e => by rw [hop] at e; cases e) (s := Builtin.append_ #[t, t] o.type #[xv, yv]) (by simp [execOp, hop, resolve, invoke, builtin, hx, hy]) hr hn

theorem keepA_ok {A : Nat → Prop} {H : List AObj} {f : List AV} {t : Array Value} (h : FrOk w A H ρ f t) (ks : List Nat) : FrOk w A H ρ (keepOnly ks f) t := keep_fr (st := { cur := [], stk := [], heap := H }) h ks

/-- Operations of a region, on known slots. -/
theorem ops_run (hΓ : GamOk P Γ) {all pre post : List Oper} (hops : ops.toList = all) {cur St' : List AV} {ks : List Nat} {x : Nat} {y : AV} {ds : List Deferred} (hx : fops Γ all pre cur (fun c => some (keepOnly ks c, c.getD x .dead)) = some (St', y)) (hd : a.defers = ds) (hB : Bs c w1 w ds) (hf : FrOk w (Av c) [] r0 cur a.tmps)
    (hn : ∀ a' w', a'.defers = ds → Bs c w1 w' ds → Keeps (Av c) w w' → FrOk w' (Av c) [] r0 St' a'.tmps → RV w' (Av c) [] r0 y (a'.tmps.getD x undef) → (∀ t, (pre.all fun o => decide (o.dst ≠ some t)) = true → a'.tmps.getD t undef = a.tmps.getD t undef) → wpListIn (Fe rd) 0 P ops Q post a' w') :
    wpListIn (Fe rd) 0 P ops Q (pre ++ post) a w := by
  refine fops_ok hΓ hops pre hx hB.st hf (fun cur' a' w' ρ' hk T k1 k2 k3 => ?_)
  simp only [Option.some.injEq, Prod.mk.injEq] at hk
  obtain ⟨rfl, rfl⟩ := hk
  have k1' : FrOk w' (Av c) [] r0 cur' a'.tmps := k1.mono fun _ _ => rv_nil
  exact hn a' w' (k2.trans hd) (hB.tr T) T.keeps (keepA_ok k1' ks) (k1'.at_ x) (fun t ht => k3 t (fun o ho => by
    have := List.all_eq_true.1 ht o ho
    simpa using this))
theorem reg_run (hΓ : GamOk P Γ) {id : Nat} {l : List Oper} {cur St' : List AV} {ks : List Nat} {x : Nat} {y : AV} {ds : List Deferred} (hx : fops Γ l l cur (fun c => some (keepOnly ks c, c.getD x .dead)) = some (St', y)) (hd : a.defers = ds) (hB : Bs c w1 w ds) (hf : FrOk w (Av c) [] r0 cur a.tmps)
    (hn : ∀ a' w', a'.defers = ds → Bs c w1 w' ds → Keeps (Av c) w w' → FrOk w' (Av c) [] r0 St' a'.tmps → RV w' (Av c) [] r0 y (a'.tmps.getD x undef) → (∀ t, (l.all fun o => decide (o.dst ≠ some t)) = true → a'.tmps.getD t undef = a.tmps.getD t undef) → Q .normal a' w') :
    (Code.region id l.toArray false).wpIn (Fe rd) 0 P Q a w := by
  refine wpIn_region_list ?_
  have := ops_run (rd := rd) (ops := l.toArray) (Q := Q) (post := []) hΓ (by simp) hx hd hB hf hn
  rw [List.append_nil] at this
  simpa using this
theorem cond_run {k : Nat} {b : Bool} {x y : Code} (hv : RV w (Av c) [] r0 (.dat .bool b) (a.tmps.getD k undef)) (h : (if b then x else y).wpIn (Fe rd) 0 P Q a w) : (Code.cond (.tmp k) x y).wpIn (Fe rd) 0 P Q a w :=
  wpIn_cond (t := b) (RV.bool hv) h

/-- The end of a function. -/
theorem end_ok (hΓ : GamOk P Γ) {fn : Func} {RR : Ending → World → Prop} {cur vs vs' : List AV} (hB : Bs c w1 w a.defers) (hf : FrOk w (Av c) [] r0 cur a.tmps) (hr : resAVs Γ [] cur fn.results.toList = some vs)
    (hv : ∀ w us, AllRV w (Av c) [] r0 vs us → AllRV w (Av c) [] r0 vs' us)
    (hRR : ∀ v us w' ρ', StOk c w' [] ρ' → AllRV w' (Avoid c.X [] ρ') [] ρ' vs' us → IsPacked us v → RR (.returned v) w') : LeavesInM (Fe none) 0 P fn a.tmps RR a.defers .returning w := by
  obtain ⟨Ds, d1, d2, d3⟩ := hB.dfr
  rw [d1]
  refine leave_ok (st := { cur := [], stk := [], heap := [] }) (TS := ⟨[], [], []⟩) (ρ := r0) (fin := fun _ => True) (by simp) a.tmps cur Ds hB.st hf rfl d2 d3 (fun w2 k1 k2 k3 k4 => ?_)
  obtain ⟨v, us', m1, m2, m3, _⟩ := results_ok hΓ k1 k2 hr
  exact ⟨v, m1, hRR v us' w2 r0 k1 (hv w2 us' m2) m3⟩
theorem nils_dat {A : Nat → Prop} {s : Sch} {val : Value} (h : RV w A [] r0 .nils val) : RV w A [] r0 (.dat (.slc s) []) val := by
  have h : [val] = [Value.slice none 0 0] := h
  exact (⟨none, 0, h, Nat.le_refl _, Nat.zero_le _, .inl rfl⟩ : RepC w A (.slc s) [] [val])
end
end Go.AI
