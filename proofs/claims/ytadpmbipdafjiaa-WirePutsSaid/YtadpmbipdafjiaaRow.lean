/- From a contract of a law's function to the given row. -/
import Derived.Test.YtadpmbipdafjiaaKit
import Derived.OpenShut
import Derived.Carry
import Derived.ChangeArms
import Derived.Below
import Derived.ChangeSame
namespace Go.AI
open Go Go.RowKit Go.WideShapes Go.ChangeShapes

/-- What memory holds for certain of plain data. -/
def Sch.Wf : (s : Sch) → s.T → Prop
  | .int k, x => (Lit.int k (toI k x)).wf = true
  | .bool, _ => True
  | .str, x => x.length ≤ maxLen
  | .slc s, xs => xs.length ≤ maxLen ∧ ∀ x, x ∈ xs → s.Wf x
  | .arr n s, xs => xs.length = n ∧ ∀ x, x ∈ xs → s.Wf x
  | .pair a b, x => a.Wf x.1 ∧ b.Wf x.2
  | .unit, _ => True
theorem RepL.all {α : Type} {R : α → List Value → Prop} {Q : α → Prop} (hR : ∀ x c, R x c → Q x) : ∀ {xs : List α} {L : List Value}, RepL R xs L → ∀ x, x ∈ xs → Q x
  | [], _, _, x, hx => by cases hx
  | y :: ys, L, h, x, hx => by
    obtain ⟨c, r, rfl, h1, h2⟩ := h
    rcases List.mem_cons.1 hx with rfl | hx
    · exact hR _ _ h1
    · exact RepL.all hR h2 x hx
theorem RepC.wf {w : World} {A : Nat → Prop} : ∀ (s : Sch) {x : s.T} {cs : List Value}, RepC w A s x cs → s.Wf x
  | .int k, _, _, h => h.2
  | .bool, _, _, _ => trivial
  | .str, _, _, h => h.2
  | .slc s, xs, cs, h => by
    obtain ⟨a, cap, _, h1, h2, h3⟩ := h
    refine ⟨by omega, ?_⟩
    rcases h3 with rfl | ⟨_, L, _, _, _, hr, _⟩
    · intro x hx; cases hx
    · exact RepL.all (fun x c hc => RepC.wf s hc) hr
  | .arr n s, xs, cs, h => ⟨h.1, RepL.all (fun x c hc => RepC.wf s hc) h.2⟩
  | .pair a b, x, cs, h => by
    obtain ⟨c, r, _, h1, h2⟩ := h
    exact ⟨RepC.wf a h1, RepC.wf b h2⟩
  | .unit, _, _, _ => trivial

mutual
/-- Does a type read as plain data of a shape? -/
def rdB (P : Program) : Sch → TypeId → Bool
  | .int k, t => P.cellsOf t == 1 && match P.underlying t with | some (.int j) => j == k | _ => false
  | .bool, t => P.cellsOf t == 1 && match P.underlying t with | some .bool => true | _ => false
  | .str, t => P.cellsOf t == 1 && match P.underlying t with | some .string => true | _ => false
  | .slc s, t => P.cellsOf t == 1 && match P.underlying t with | some (.slice e) => rdB P s e && decide (0 < s.cells) | _ => false
  | .arr n s, t => P.cellsOf t == n * s.cells && match P.underlying t with | some (.array m e) => m == n && rdB P s e | _ => false
  | .pair a b, t => P.cellsOf t == a.cells + b.cells && match P.underlying t with
    | some (.struct fs) => match fs.toList with
      | f :: r => f.offset == 0 && rdB P a f.type && rdF P b r a.cells
      | [] => false
    | _ => false
  | .unit, t => P.cellsOf t == 0 && match P.underlying t with | some (.struct fs) => fs.size == 0 | _ => false
def rdF (P : Program) : Sch → List Field → Nat → Bool
  | .pair a b, f :: r, off => f.offset == off && rdB P a f.type && rdF P b r (off + a.cells)
  | .unit, [], _ => true
  | _, _, _ => false
end

section
variable {H : Type} {enc : TypeId × Value → H} {P : Program} {w : World} {base : Nat} {sp : Nat → Bool} {held : Bool}

theorem toI_of (k : IntKind) (n : Int) (h : (Lit.int k n).wf = true) : toI k (ofI k n) = n := by
  have h' := h
  simp only [Lit.wf, Bool.and_eq_true, decide_eq_true_eq] at h'
  cases k <;> simp_all [toI, ofI, IntKind.min, IntKind.max, IntKind.signed, IntKind.bits] <;> omega

theorem repL_of {α : Type} {R : α → List Value → Prop} : ∀ (n : Nat) (f : Nat → List Value), (∀ i, i < n → ∃ y, R y (f i)) → ∃ ys : List α, ys.length = n ∧ RepL R ys ((List.range n).flatMap f)
  | 0, f, _ => ⟨[], rfl, by simp [RepL]⟩
  | n + 1, f, h => by
    obtain ⟨ys, hl, hr⟩ := repL_of n f (fun i hi => h i (by omega))
    obtain ⟨y, hy⟩ := h n (by omega)
    refine ⟨ys ++ [y], by simp [hl], ?_⟩
    rw [List.range_succ, List.flatMap_append]
    exact RepL.append hr (by simpa using RepL.one hy)
theorem flat_drop (k : Nat) : ∀ (n : Nat) (cs : List Value), cs.length = n * k → (List.range n).flatMap (fun i => (cs.drop (i * k)).take k) = cs
  | 0, cs, h => by simp at h; simp [h]
  | n + 1, cs, h => by
    rw [List.range_succ, List.flatMap_append]
    have ih := flat_drop k n (cs.take (n * k)) (by rw [List.length_take, h, Nat.add_mul]; omega)
    have e : (List.range n).flatMap (fun i => (cs.drop (i * k)).take k) = cs.take (n * k) := by
      rw [← ih, List.flatMap_def, List.flatMap_def]
      congr 1
      apply List.map_congr_left
      intro i hi
      have hi := List.mem_range.1 hi
      rw [List.drop_take, List.take_take]
      congr 1
      have : (i + 1) * k ≤ n * k := Nat.mul_le_mul_right _ (by omega)
      rw [Nat.add_mul] at this
      omega
    rw [e]
    simp only [List.flatMap_cons, List.flatMap_nil, List.append_nil]
    rw [List.take_of_length_le (l := cs.drop (n * k)) (by rw [List.length_drop, h, Nat.add_mul]; omega), List.take_append_drop]
theorem flat_get (k : Nat) (f : Nat → List Value) : ∀ (n : Nat), (∀ i, i < n → (f i).length = k) → ∀ j u, ((List.range n).flatMap f)[j]? = some u → ∃ i, i < n ∧ i * k ≤ j ∧ j < i * k + k ∧ (f i)[j - i * k]? = some u
  | 0, _, j, u, h => by simp at h
  | n + 1, hf, j, u, h => by
    rw [List.range_succ, List.flatMap_append] at h
    have hl : ((List.range n).flatMap f).length = n * k := by
      clear h
      induction n with
      | zero => simp
      | succ n ih => rw [List.range_succ, List.flatMap_append, List.length_append, ih (fun i hi => hf i (by omega))]; simp [hf n (by omega), Nat.add_mul]
    rcases Nat.lt_or_ge j (n * k) with hj | hj
    · rw [List.getElem?_append_left (by omega)] at h
      obtain ⟨i, h1, h2⟩ := flat_get k f n (fun i hi => hf i (by omega)) j u h
      exact ⟨i, by omega, h2⟩
    · rw [List.getElem?_append_right (by omega), hl] at h
      simp only [List.flatMap_cons, List.flatMap_nil, List.append_nil] at h
      refine ⟨n, by omega, hj, ?_, h⟩
      have := (List.getElem?_eq_some_iff.1 h).1
      rw [hf n (by omega)] at this; omega

theorem trod_arr {t e : TypeId} {n fuel : Nat} {cs : List Value} {x : DataW H × List MemPlace} (ht : P.underlying t = some (.array n e)) (h : DataW.trod enc P w base sp held fuel t cs = some x) :
    cs.length = P.cellsOf t ∧ ∃ m, ∀ i, i < n → ∃ y, DataW.trod enc P w base sp held m e ((cs.drop (i * P.cellsOf e)).take (P.cellsOf e)) = some y := by
  cases fuel with
  | zero => simp [DataW.trod] at h
  | succ m =>
    unfold DataW.trod at h
    rw [ht] at h
    split at h <;> simp_all
    obtain ⟨_, xs, hp, _⟩ := h
    refine ⟨m, fun i hi => ?_⟩
    have hl := mapM_some_length hp
    rw [List.length_range] at hl
    have := mapM_some_get hp i i (by simp [hi])
    exact ⟨(xs[i]'(by omega)).1, (xs[i]'(by omega)).2, by rw [this]; simp [show i < xs.length by omega]⟩

mutual
theorem open_rep : ∀ (s : Sch) (t : TypeId) (fuel : Nat) (cs : List Value) (x : DataW H × List MemPlace), rdB P s t = true → DataW.trod enc P w base sp held fuel t cs = some x → ∃ y : s.T, RepC w (fun _ => False) s y cs ∧ P.cellsOf t = s.cells
  | .int k, t, fuel, cs, x, hr, h => by
    simp only [rdB, Bool.and_eq_true, beq_iff_eq] at hr
    obtain ⟨hc, hr⟩ := hr
    split at hr
    · rename_i j hj
      obtain rfl : j = k := by simpa using hr
      obtain ⟨n, rfl, _, hw⟩ := DataW.trod_int hj h
      exact ⟨ofI j n, ⟨by rw [toI_of j n hw], by rw [toI_of j n hw]; exact hw⟩, hc⟩
    · cases hr
  | .bool, t, fuel, cs, x, hr, h => by
    simp only [rdB, Bool.and_eq_true, beq_iff_eq] at hr
    obtain ⟨hc, hr⟩ := hr
    split at hr
    · rename_i hj
      obtain ⟨b, rfl, _⟩ := DataW.trod_bool hj h
      exact ⟨b, rfl, hc⟩
    · cases hr
  | .str, t, fuel, cs, x, hr, h => by
    simp only [rdB, Bool.and_eq_true, beq_iff_eq] at hr
    obtain ⟨hc, hr⟩ := hr
    split at hr
    · rename_i hj
      obtain ⟨b, rfl, _, hs⟩ := DataW.trod_string hj h
      exact ⟨b.data.toList, ⟨rfl, by rw [Array.length_toList]; exact hs⟩, hc⟩
    · cases hr
  | .slc s, t, fuel, cs, x, hr, h => by
    simp only [rdB, Bool.and_eq_true, beq_iff_eq] at hr
    obtain ⟨hc, hr⟩ := hr
    split at hr
    · rename_i e hj
      simp only [Bool.and_eq_true, decide_eq_true_eq] at hr
      rcases DataW.trod_slice hj h with ⟨rfl, _⟩ | ⟨a, len, cap, elems, rest, n, _, rfl, _, _, hl, hm, hlen, hel, _⟩
      · exact ⟨[], ⟨none, 0, rfl, Nat.le_refl _, Nat.zero_le _, .inl rfl⟩, hc⟩
      · have hcell : ∀ i, i < len → ∃ L y, w.cells? base (a.add (i * P.cellsOf e)) (P.cellsOf e) = some L ∧ RepC w (fun _ => False) s y L ∧ P.cellsOf e = s.cells := by
          intro i hi
          have h1 := hel i hi
          rw [List.getElem?_eq_getElem (by omega)] at h1
          obtain ⟨L, h2, h3⟩ := Option.bind_eq_some_iff.1 h1
          obtain ⟨y, h4, h5⟩ := open_rep s e n L _ hr.1 h3
          exact ⟨L, y, h2, h4, h5⟩
        rcases Nat.eq_zero_or_pos len with h0 | hpos
        · subst h0
          exact ⟨[], ⟨some a, cap, rfl, Nat.zero_le _, hm, .inl rfl⟩, hc⟩
        · obtain ⟨L0, y0, k1, k2, k3⟩ := hcell 0 hpos
          let f : Nat → List Value := fun i => (w.cells? base (a.add (i * P.cellsOf e)) (P.cellsOf e)).getD []
          have hf : ∀ i, i < len → ∃ y, RepC w (fun _ => False) s y (f i) ∧ w.cells? base (a.add (i * P.cellsOf e)) (P.cellsOf e) = some (f i) := by
            intro i hi
            obtain ⟨L, y, q1, q2, _⟩ := hcell i hi
            have e1 : f i = L := by simp only [f, q1]; rfl
            exact ⟨y, by rw [e1]; exact q2, by rw [e1]; exact q1⟩
          obtain ⟨ys, hyl, hyr⟩ := repL_of len f (fun i hi => ⟨(hf i hi).choose, (hf i hi).choose_spec.1⟩)
          refine ⟨ys, ⟨some a, cap, by rw [hyl], by rw [hyl]; exact hl, hm, .inr ⟨a, _, rfl, ?_, fun h => h, hyr, ?_⟩⟩, hc⟩
          · have := World.cells?_block k1 (by rw [k3]; exact hr.2)
            rwa [Addr.add_block] at this
          · intro j u hu
            have hfl : ∀ i, i < len → (f i).length = s.cells := fun i hi => RepC.length s (hf i hi).choose_spec.1
            obtain ⟨i, hi, hij, hij2, hu⟩ := flat_get s.cells f len hfl j u hu
            obtain ⟨_, _, hc'⟩ := World.cells?_some (hf i hi).choose_spec.2
            have := hc' (j - i * s.cells) (by rw [k3]; omega)
            rw [hu, k3, addr_add_add] at this
            rwa [show i * s.cells + (j - i * s.cells) = j by omega] at this
    · cases hr
  | .arr n s, t, fuel, cs, x, hr, h => by
    simp only [rdB, Bool.and_eq_true, beq_iff_eq] at hr
    obtain ⟨hc, hr⟩ := hr
    split at hr
    · rename_i m e hj
      simp only [Bool.and_eq_true, beq_iff_eq] at hr
      obtain ⟨rfl, hr⟩ := hr
      obtain ⟨hlen, q, hall⟩ := trod_arr hj h
      rcases Nat.eq_zero_or_pos m with h0 | hpos
      · subst h0
        rw [hc] at hlen
        have : cs = [] := by simpa using hlen
        subst this
        exact ⟨[], ⟨rfl, by simp [RepL]⟩, hc⟩
      · have hce : P.cellsOf e = s.cells := by
          obtain ⟨y, hy⟩ := hall 0 hpos
          obtain ⟨_, _, h3⟩ := open_rep s e q _ _ hr hy
          exact h3
        obtain ⟨ys, hyl, hyr⟩ := repL_of (R := RepC w (fun _ => False) s) m (fun i => (cs.drop (i * s.cells)).take s.cells) (fun i hi => by
          obtain ⟨y, hy⟩ := hall i hi
          obtain ⟨z, h2, _⟩ := open_rep s e q _ _ hr hy
          rw [hce] at h2
          exact ⟨z, h2⟩)
        rw [flat_drop s.cells m cs (by rw [hlen, hc])] at hyr
        exact ⟨ys, ⟨hyl, hyr⟩, hc⟩
    · cases hr
  | .pair a b, t, fuel, cs, x, hr, h => by
    simp only [rdB, Bool.and_eq_true, beq_iff_eq] at hr
    obtain ⟨hc, hr⟩ := hr
    split at hr
    · rename_i fs hj
      split at hr
      · rename_i f r hfs
        simp only [Bool.and_eq_true, beq_iff_eq] at hr
        obtain ⟨⟨h0, h1⟩, h2⟩ := hr
        obtain ⟨xs, n, _, _, hlen, hxl, hall⟩ := DataW.trod_struct hj h
        have hall' : ∀ (i : Nat) (g : Field), fs.toList[i]? = some g → ∃ y, DataW.trod enc P w base sp held n g.type ((cs.drop g.offset).take (P.cellsOf g.type)) = some y := by
          intro i g hg
          have hi : i < fs.size := by
            have := (List.getElem?_eq_some_iff.1 hg).1
            simpa using this
          have := hall i g (by rw [← Array.getElem?_toList]; exact hg)
          exact ⟨xs[i]'(by omega), by rw [this]; simp [show i < xs.length by omega]⟩
        rw [hfs] at hall'
        obtain ⟨y0, hy0⟩ := hall' 0 f rfl
        obtain ⟨ya, ha, hca⟩ := open_rep a f.type n _ _ h1 hy0
        obtain ⟨yb, hb⟩ := open_fields b r a.cells n cs h2 (by rw [hlen, hc]) (fun i g hg => hall' (i + 1) g (by simpa using hg))
        refine ⟨(ya, yb), ⟨_, _, ?_, ha, hb⟩, hc⟩
        rw [h0, hca, List.drop_zero, List.take_append_drop]
      · cases hr
    · cases hr
  | .unit, t, fuel, cs, x, hr, h => by
    simp only [rdB, Bool.and_eq_true, beq_iff_eq] at hr
    obtain ⟨hc, hr⟩ := hr
    split at hr
    · rename_i fs hj
      obtain ⟨_, _, _, _, hlen, _, _⟩ := DataW.trod_struct hj h
      rw [hc] at hlen
      exact ⟨(), by simpa [RepC] using hlen, hc⟩
    · cases hr
theorem open_fields : ∀ (s : Sch) (fs : List Field) (off n : Nat) (cs : List Value), rdF P s fs off = true → cs.length = off + s.cells →
    (∀ (i : Nat) (g : Field), fs[i]? = some g → ∃ y, DataW.trod enc P w base sp held n g.type ((cs.drop g.offset).take (P.cellsOf g.type)) = some y) → ∃ y : s.T, RepC w (fun _ => False) s y (cs.drop off)
  | .pair a b, f :: r, off, n, cs, hr, hl, hall => by
    simp only [rdF, Bool.and_eq_true, beq_iff_eq] at hr
    obtain ⟨⟨h0, h1⟩, h2⟩ := hr
    obtain ⟨y0, hy0⟩ := hall 0 f rfl
    obtain ⟨ya, ha, hca⟩ := open_rep a f.type n _ _ h1 hy0
    obtain ⟨yb, hb⟩ := open_fields b r (off + a.cells) n cs h2 (by rw [hl]; simp only [Sch.cells]; omega) (fun i g hg => hall (i + 1) g (by simpa using hg))
    refine ⟨(ya, yb), _, _, ?_, ha, hb⟩
    rw [h0, hca, ← List.drop_drop, List.take_append_drop]
  | .unit, [], off, n, cs, hr, hl, _ => ⟨(), by simp only [RepC]; exact List.drop_eq_nil_of_le (by rw [hl]; simp [Sch.cells])⟩
  | .pair _ _, [], _, _, _, hr, _, _ => by simp [rdF] at hr
  | .unit, _ :: _, _, _, _, hr, _, _ => by simp [rdF] at hr
  | .int _, _, _, _, _, hr, _, _ => by simp [rdF] at hr
  | .bool, _, _, _, _, hr, _, _ => by simp [rdF] at hr
  | .str, _, _, _, _, hr, _, _ => by simp [rdF] at hr
  | .slc _, _, _, _, _, hr, _, _ => by simp [rdF] at hr
  | .arr _ _, _, _, _, _, hr, _, _ => by simp [rdF] at hr
end

/-- An argument, opened. -/
theorem open_arg {r : Reach} {b0 : Nat} {s : Sch} {t : TypeId} {v : Value} {d : DataW H} {ps : List MemPlace} (hr : rdB P s t = true) (hval : Value.okWide P w r b0 t v) (hd : DataW.Trod enc P w base sp held t v d ps) :
    ∃ y : s.T, RV w (fun _ => False) [] (fun _ => none) (.dat s y) v ∧ s.Wf y := by
  obtain ⟨fuel, hf⟩ := hd
  obtain ⟨y, hy, _⟩ := open_rep s t fuel _ _ hr hf
  refine ⟨y, ?_, RepC.wf s hy⟩
  have one : (∀ cs, v ≠ .agg cs) → s.agg = false → RV w (fun _ => False) [] (fun _ => none) (.dat s y) v := by
    intro hne hag
    have hc : v.cells.toList = [v] := by
      cases v <;> first | rfl | exact absurd rfl (hne _)
    rw [hc] at hy
    simp only [RV, RV1, AV.agg, hag, Bool.false_eq_true, if_false, RX]
    exact hy
  have many : s.agg = true → (∃ cs, v = .agg cs) → RV w (fun _ => False) [] (fun _ => none) (.dat s y) v := by
    rintro hag ⟨cs, rfl⟩
    simp only [RV, RV1, AV.agg, hag, if_true, RX]
    exact ⟨cs.toList, by simp, hy⟩
  cases s with
  | int k =>
    simp only [rdB, Bool.and_eq_true] at hr
    have h2 := hr.2
    split at h2
    · rename_i j hj
      obtain ⟨n, rfl⟩ := okWide_int hj hval
      exact one (by simp) rfl
    · cases h2
  | bool =>
    simp only [rdB, Bool.and_eq_true] at hr
    have h2 := hr.2
    split at h2
    · rename_i hj
      obtain ⟨n, rfl⟩ := okWide_bool hj hval
      exact one (by simp) rfl
    · cases h2
  | str =>
    simp only [rdB, Bool.and_eq_true] at hr
    have h2 := hr.2
    split at h2
    · rename_i hj
      obtain ⟨n, rfl⟩ := okWide_string hj hval
      exact one (by simp) rfl
    · cases h2
  | slc s =>
    simp only [rdB, Bool.and_eq_true] at hr
    have h2 := hr.2
    split at h2
    · rename_i e hj
      obtain ⟨a, len, cap, rfl⟩ := okWide_slice hj hval
      exact one (by simp) rfl
    · cases h2
  | arr n s =>
    simp only [rdB, Bool.and_eq_true] at hr
    have h2 := hr.2
    split at h2
    · rename_i m e hj
      simp only [Value.okWide, hj] at hval
      obtain ⟨cs, rfl, _⟩ := hval
      exact many rfl ⟨cs, rfl⟩
    · cases h2
  | pair a b =>
    simp only [rdB, Bool.and_eq_true] at hr
    have h2 := hr.2
    split at h2
    · rename_i fs hj
      obtain ⟨cs, rfl, _⟩ := okWide_struct hj hval
      exact many rfl ⟨cs, rfl⟩
    · cases h2
  | unit =>
    simp only [rdB, Bool.and_eq_true] at hr
    have h2 := hr.2
    split at h2
    · rename_i fs hj
      obtain ⟨cs, rfl, _⟩ := okWide_struct hj hval
      exact many rfl ⟨cs, rfl⟩
    · cases h2

/-- The data of a law's arguments, and what is certain of them. -/
abbrev LawT (ss : List Sch) : Type := ArgsT (ss.map PM.d)
def WfArgs : (ss : List Sch) → LawT ss → Prop
  | [], _ => True
  | s :: ss, x => s.Wf x.1 ∧ WfArgs ss x.2
def rdAll (P : Program) : List Sch → List TypeId → Bool
  | [], [] => true
  | s :: ss, t :: ts => rdB P s t && rdAll P ss ts
  | _, _ => false
theorem open_args {b0 : Nat} : ∀ (ss : List Sch) (ts : List TypeId) (vs : List Value) (ds : List (DataW H)) (ps : List MemPlace), rdAll P ss ts = true → (∀ (j : Nat) t v, ts[j]? = some t → vs[j]? = some v → Value.okWide P w .any b0 t v) →
    DataW.TrodAll enc P w base sp held ts vs ds ps → ∃ x : LawT ss, WfArgs ss x ∧ AllRV w (fun _ => False) [] (fun _ => none) (avsB (argsInst (ss.map PM.d) x) 0) vs ∧ rowsB (argsInst (ss.map PM.d) x) = [] ∧ (argsInst (ss.map PM.d) x).map BV.mode = ss.map PM.d
  | [], [], vs, ds, ps, _, _, h => by
    cases vs with
    | nil => exact ⟨(), trivial, rfl, rfl, rfl⟩
    | cons v vs => cases ds <;> exact h.elim
  | s :: ss, t :: ts, vs, ds, ps, hr, hv, h => by
    simp only [rdAll, Bool.and_eq_true] at hr
    obtain ⟨v, vs', d, ds', p, q, rfl, rfl, rfl, h1, h2⟩ := trodAll_cons h
    obtain ⟨y, hy, hw⟩ := open_arg hr.1 (hv 0 t v rfl rfl) h1
    obtain ⟨x, hx, ha, hrow, hm⟩ := open_args ss ts vs' ds' q hr.2 (fun j t v ht hv' => hv (j + 1) t v (by simpa using ht) (by simpa using hv')) h2
    exact ⟨(y, x), ⟨hw, hx⟩, ⟨v, vs', rfl, hy, ha⟩, hrow, congrArg (PM.d s :: ·) hm⟩
  | [], _ :: _, _, _, _, hr, _, _ => by simp [rdAll] at hr
  | _ :: _, [], _, _, _, hr, _, _ => by simp [rdAll] at hr
end

/-- A law's function answers true, and what was there stays. -/
theorem law_calls {H : Type} {enc : TypeId × Value → H} {P : Program} {f : FuncId} {ss : List Sch} {fr : Bool} {g : LawT ss → Bool × List BV} (hc : Contract P f (Orc.of (ss.map PM.d) fr 0 g)) {ts : List TypeId} (hr : rdAll P ss ts = true)
    (hg : ∀ x, WfArgs ss x → g x = (true, [.d .bool true])) {W : World} {args : Array Value} {ds : List (DataW H)} {ps : List MemPlace} {sp : Nat → Bool} {held : Bool} {b0 : Nat} (hval : ∀ (j : Nat) t v, ts[j]? = some t → args.toList[j]? = some v → Value.okWide P W .any b0 t v)
    (h : DataW.TrodAll enc P W 0 sp held ts args.toList ds ps) : Calls P f args W fun e W' => e = .returned (.bool true) ∧ Below W.heap.size W W' := by
  obtain ⟨x, hx, ha, hrow, hm⟩ := open_args ss ts _ _ _ hr hval h
  have hfn : (Orc.of (ss.map PM.d) fr 0 g).fn (argsInst (ss.map PM.d) x) = some (true, [.d .bool true]) := by
    have : ∀ (ms : List PM) (y : ArgsT ms), argsTake ms (argsInst ms y) = some y := by
      intro ms
      induction ms with
      | nil => intro y; rfl
      | cons m ms ih =>
        intro y
        have h1 : m.take (m.inst y.1) = some y.1 := by cases m <;> simp [PM.take, PM.inst, castT]
        simp only [argsTake, argsInst, h1, ih]
    simp only [Orc.of, this, Option.map_some, hg x hx]
  have key := hc.2 _ _ hfn hm ⟨W, [], fun _ => False⟩ (fun _ => none) args.toList
  rw [hrow] at key
  have hA : Avoid (fun _ => False) [] (fun _ => none) = fun _ => False := by
    funext b
    simp [Avoid]
  have hst : StOk ⟨W, [], fun _ => False⟩ W [] (fun _ => none) := ⟨fun o => by simp [ASt.obj, ObjOk], fun o o' g C C' _ _ h => by simp at h, ⟨rfl, rfl, rfl, Nat.le_refl _, fun _ _ _ => rfl⟩, fun b h => h.elim⟩
  simp only [hA] at key
  refine key hst ha _ (fun v us w' ρ' h1 h2 h3 => ?_)
  obtain ⟨u, r, rfl, hu, hr'⟩ := h2
  have hr' : r = [] := hr'
  subst hr'
  have hv : v = u := h3
  subst hv
  have := RV.bool hu
  subst this
  exact ⟨rfl, h1.fr.os, h1.fr.tape, h1.fr.output, h1.fr.size, fun k hk => h1.fr.block k hk (by simp)⟩

section
variable {H : Type} {enc : TypeId × Value → H} {P : Program}
/-- What a row asks, where nothing that was there has changed. -/
theorem post_below {f : Func} {s : ChangeSpec} {apart fresh handsOn again : Bool} {W W' : World} {args : Array Value} {v : Value} {ds gs : List (DataW H)} {before pa pv : List MemPlace}
    (hW : DataW.Whole enc P f.params.toList s.vars apart W args.toList ds gs before)
    (hres : ∀ (b : Nat) (sp : Nat → Bool) (hd : Bool), DataW.TrodAll enc P W' b sp hd f.resultTypes.toList (v.resultList f.resultTypes.size) (s.fn H (ds ++ gs)).results [])
    (hargs : ∀ sp : Nat → Bool, (∀ p ∈ before, sp p.block = true) → DataW.TrodAll enc P W' 0 sp true f.params.toList args.toList (s.fn H (ds ++ gs)).args pa)
    (hvars : ∀ sp : Nat → Bool, (∀ p ∈ before, sp p.block = true) → DataW.TrodVars enc P W' sp s.vars (s.fn H (ds ++ gs)).vars pv)
    (hps : before = pa ++ pv) (hb : Below W.heap.size W W')
    (hok : ∀ (j : Nat) (t : TypeId) (r : Value), f.resultTypes[j]? = some t → (v.resultList f.resultTypes.size)[j]? = some r → Value.okWide P W' .any 0 t r) :
    s.post enc P f apart fresh handsOn again W args v W' := by
  have hlt : ∀ p ∈ before, p.block < W.heap.size := fun p hp => hW.lt p hp
  have hold : ∀ p ∈ before, (fun b => decide (b < W.heap.size)) p.block = true := fun p hp => by simpa using hlt p hp
  refine ⟨ds, gs, before, [], pa, pv, hW, hres _ _ _, hargs _ hold, hvars _ hold, World.keptBut_mono (fun p hp => ⟨hp, ?_⟩) (hb.frame (· ∈ before)), fun _ => ?_⟩
  · rw [hps, List.mem_append] at hp
    exact Or.inr hp
  · obtain ⟨_, _, _, _, _, hz, hn⟩ := hW
    refine ⟨hok, _, _, ([] ++ pa) ++ pv, ⟨[] ++ pa, pv, trodAll_append (hargs _ (fun _ _ => rfl)) (hres _ _ _), hvars _ (fun _ _ => rfl), rfl, ?_, ?_⟩, ?_⟩
    · intro b off hp
      have hin : MemPlace.cell b off ∈ before := by rw [hps]; simpa using hp
      rw [hb.frozen (hlt _ hin)]
      exact hz b off hin
    · intro ha
      have := hn ha
      rw [hps] at this
      simpa using this
    · intro p hp _
      rw [hps]
      simpa using hp
/-- The arguments read as they did. -/
theorem args_stay (hl : laidOutB P = true) {W W' : World} (hb : Below W.heap.size W W') : ∀ (ts : List TypeId) (vs : List Value) (ds : List (DataW H)) (ps : List MemPlace), (ts.all fun t => P.readableRec t && decide (t < P.types.size)) = true → (∀ p ∈ ps, p.block < W.heap.size) →
    DataW.TrodAll enc P W 0 (fun _ => true) true ts vs ds ps → ∀ sp : Nat → Bool, (∀ p ∈ ps, sp p.block = true) → DataW.TrodAll enc P W' 0 sp true ts vs ds ps
  | [], vs, ds, ps, _, _, h, sp, _ => by
    cases vs <;> cases ds <;> exact h
  | t :: ts, vs, ds, ps, ht, hlt, h, sp, hsp => by
    obtain ⟨v, vs', d, ds', p, q, rfl, rfl, rfl, h1, h2⟩ := trodAll_cons h
    simp only [List.all_cons, Bool.and_eq_true, decide_eq_true_eq] at ht
    refine ⟨p, q, ?_, args_stay hl hb ts vs' ds' q ht.2 (fun x hx => hlt x (List.mem_append_right _ hx)) h2 sp (fun x hx => hsp x (List.mem_append_right _ hx)), rfl⟩
    exact WideElems.Trod_stays hl ht.1.1 ht.1.2 h1 (fun x hx => hb.same (hlt x (List.mem_append_left _ hx))) (fun x hx => hsp x (List.mem_append_left _ hx))
end

/-- What a law's row asks, from a contract. -/
theorem law_post {H : Type} {enc : TypeId × Value → H} {P : Program} {f : FuncId} {fn : Func} {s : ChangeSpec} {ss : List Sch} {fr : Bool} {g : LawT ss → Bool × List BV} (hc : Contract P f (Orc.of (ss.map PM.d) fr 0 g)) {apart fresh handsOn again : Bool} {tb : TypeId}
    (hr : rdAll P ss fn.params.toList = true) (hread : (fn.params.toList.all fun t => P.readableRec t && decide (t < P.types.size)) = true) (hl : laidOutB P = true) (hres : fn.resultTypes = #[tb]) (hb : P.underlying tb = some .bool)
    (hvars : s.vars = []) (hs : ∀ ds : List (DataW H), ds.length = fn.params.toList.length → s.fn H (ds ++ []) = { results := [.lit (.bool true)], args := ds })
    (hg : ∀ x, WfArgs ss x → g x = (true, [.d .bool true])) {W : World} {base : Nat} {args : Array Value} {ds gs : List (DataW H)} {before : List MemPlace}
    (hval : ∀ (j : Nat) t v, fn.params[j]? = some t → args[j]? = some v → Value.okWide P W .any base t v) (hW : DataW.Whole enc P fn.params.toList s.vars apart W args.toList ds gs before) :
    Calls P f args W fun e W' => ∃ v, e = .returned v ∧ s.post enc P fn apart fresh handsOn again W args v W' := by
  have hW' := hW
  obtain ⟨p, q, hA, hV, rfl, hfz, hnd⟩ := hW
  rw [hvars] at hV
  obtain ⟨rfl, rfl⟩ := trodVars_none hV
  have hval' : ∀ (j : Nat) t v, fn.params.toList[j]? = some t → args.toList[j]? = some v → Value.okWide P W .any base t v := by
    intro j t v h1 h2
    exact hval j t v (by rw [← Array.getElem?_toList]; exact h1) (by rw [← Array.getElem?_toList]; exact h2)
  refine (law_calls hc hr hg hval' hA).mono fun e W' ⟨he, hbel⟩ => ?_
  subst he
  have hlen : ds.length = fn.params.toList.length := by
    have : ∀ (ts : List TypeId) (vs : List Value) (ds : List (DataW H)) (ps : List MemPlace), DataW.TrodAll enc P W 0 (fun _ => true) true ts vs ds ps → ds.length = ts.length := by
      intro ts
      induction ts with
      | nil => intro vs ds ps h; cases vs <;> cases ds <;> first | rfl | exact h.elim
      | cons t ts ih =>
        intro vs ds ps h
        obtain ⟨v, vs', d, ds', p, q, rfl, rfl, rfl, _, h2⟩ := trodAll_cons h
        simp [ih _ _ _ h2]
    exact this _ _ _ _ hA
  have hfn := hs ds hlen
  refine ⟨_, rfl, post_below (pa := p) (pv := []) hW' (fun b sp hd => ?_) (fun sp hsp => ?_) (fun sp _ => ?_) rfl hbel (ok_one hres rfl (okWide_bool_mk hb _))⟩
  · rw [hfn, hres]
    exact trodAll_cons_mk (shut_bool hb _) trodAll_mk0
  · rw [hfn]
    exact args_stay hl hbel _ _ _ _ hread (fun x hx => hW'.lt x (by simpa using hx)) hA sp (fun x hx => hsp x (by simpa using hx))
  · rw [hfn, hvars]
    exact rfl
end Go.AI
