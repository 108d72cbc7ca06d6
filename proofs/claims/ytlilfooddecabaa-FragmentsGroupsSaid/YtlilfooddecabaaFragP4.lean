/- What the printed functions of the reference of fragments answer: the rest. -/
import Derived.Test.YtlilfooddecabaaFragP3
namespace Go.AI
open Go

theorem qAdd_plain (f : Frg) (b : List UInt8) (_ : qAdd_P f b = true) : ∃ F, ∀ {X : Type} (fail : X) (ret : Frg → Int → Bool → Int → X), qAdd F f b fail ret = ret (qAdd_r0 f b) (qAdd_r1 f b) (qAdd_r2 f b) (qAdd_r3 f b) := ⟨0, fun fail ret => by
  unfold qAdd qAdd_r0 qAdd_r1 qAdd_r2 qAdd_r3 addI_ qCheck_r
  rw [bif_true (c := qCheck_P f) rfl]
  by_cases c : chkI f = 0
  · have hl := (chk_ok c).1
    rw [bif_false (bne_f c), if_pos c]
    have hb : decide (f.1.length ≤ big) = true := le_big (by omega)
    rcases addK_cases f b with ⟨k1, k⟩ | ⟨k1, k⟩ | ⟨k1, k2, k3, k⟩ | ⟨k1, k2, k3, k4, k⟩ | ⟨k1, k2, k3, k4, k⟩ <;> rw [k]
    · exact bif_true (tt (by omega)) _ _
    · exact (bif_false (ff (by omega)) _ _).trans (bif_true (beq_t (by omega)) _ _)
    all_goals
      have hs : rSum_P b = true := tt (by omega)
      have hq : qfind_P f.1 (rSum_r b) (b.length : Nat) = true := tt (by omega)
      have k3 : hasI f.1 (rSum_r b) (b.length : Nat) = _ := k3
      refine (bif_false (ff (by omega)) _ _).trans ((bif_false (beq_f (by omega)) _ _).trans ((bif_true hb _ _).trans ((bif_true hs _ _).trans ((bif_true hq _ _).trans ?_))))
      rw [qfind_has, k3]
    · show ret f (qfind_r f.1 (rSum_r b) (b.length : Nat)) false 0 = _
      unfold qfind_r
      rw [k3, if_pos rfl]; rfl
    · exact bif_true (tt (by omega)) _ _
    · refine (bif_false (ff (by omega)) _ _).trans (bif_true (le_big ?_) _ _)
      rw [List.length_append, List.length_singleton]; omega
  · rw [bif_true (bne_t c), if_neg c]; rfl⟩
theorem qPlace_plain (f : Frg) (k b a : Int) (_ : qPlace_P f k b a = true) : ∃ F, ∀ {X : Type} (fail : X) (ret : Frg → Int → X), qPlace F f k b a fail ret = ret (qPlace_r0 f k b a) (qPlace_r1 f k b a) := ⟨0, fun fail ret => by
  unfold qPlace qPlace_r0 qPlace_r1 plaI qCheck_r
  rw [bif_true (c := qCheck_P f) rfl]
  by_cases c : chkI f = 0
  · have hl := (chk_ok c).1
    rw [bif_false (bne_f c), if_pos c]
    have ho := plaK_cases f k b a
    by_cases k1 : 0 ≤ k ∧ k < f.1.length
    case neg =>
      rw [show plaK f k b a = (fr0, 7) from if_neg k1]
      by_cases k2 : k < 0
      · exact bif_true (tt k2) _ _
      · exact (bif_false (ff k2) _ _).trans (bif_true (tt (by omega)) _ _)
    have hx : okI (f.1.getD k.toNat itm0) = true := (chk_ok c).2 _ (by rw [getD_lt (show k.toNat < f.1.length by omega)]; exact List.getElem_mem _)
    have hp : qplace_P (f.1.getD k.toNat itm0).2.1 b a = true := (okI_iff.1 hx).1
    refine (bif_false (ff (by omega)) _ _).trans ((bif_false (ff (by omega)) _ _).trans ((bif_true (tt2 k1.1 k1.2) _ _).trans ?_))
    rcases ho with ⟨k0, q⟩ | ⟨_, k2, q⟩ | ⟨_, k2, k3, q⟩ | ⟨_, k2, k3, q⟩ <;> rw [q]
    · exact absurd k1 k0
    · exact bif_true (bne_t k2) _ _
    all_goals refine (bif_false (bne_f k2) _ _).trans ((bif_true (tt2 k1.1 k1.2) _ _).trans ((bif_true hp _ _).trans ?_))
    · exact bif_true (not_t k3) _ _
    · refine (bif_false (not_f k3) _ _).trans ((bif_true (le_big (by omega)) _ _).trans ((bif_true (tt2 k1.1 k1.2) _ _).trans ((bif_true (tt2 k1.1 (by rw [List.length_set]; exact k1.2)) _ _).trans ?_)))
      have e := fun x => getD_set (l := f.1) (k := k.toNat) x itm0 (by omega)
      show ret (((f.1.set k.toNat _).set k.toNat (((f.1.set k.toNat _).getD k.toNat itm0).1, (((f.1.set k.toNat _).getD k.toNat itm0).2.1, (((f.1.set k.toNat _).getD k.toNat itm0).2.2.1, (a, ((f.1.set k.toNat _).getD k.toNat itm0).2.2.2.2)))), ())) 0 = _
      rw [e, set_set]; rfl
  · rw [bif_true (bne_t c), if_neg c]; rfl⟩
theorem qStored_loop {X : Type} (F : Nat) (fail : X) (ex0 : Int → Int → Frg → X) (K : Int → X) (f : Frg) (ho : ∀ x, x ∈ f.1 → okI x = true) (hl : f.1.length ≤ 4096) (h0 : ∀ s i : Int, ex0 s i f = K s) : ∀ (j n i : Nat) (s : Int), i + j = f.1.length → j ≤ n → 0 ≤ s → s ≤ 65536 * i →
    qStored_l1F F fail ex0 (n + 1) s i f = K (s + sumI (f.1.drop i))
  | 0, n, i, s, hi, _, _, _ => by
    have e : i = f.1.length := by omega
    subst e
    rw [qStored_l1F, qStored_l1]
    rw [bif_false (ff (by omega)), List.drop_length, h0, show sumI [] = 0 from rfl, Int.add_zero]
  | j + 1, 0, i, _, _, hn, _, _ => absurd hn (by omega)
  | j + 1, n + 1, i, s, hi, hn, s0, s1 => by
    have ih := fun s' => qStored_loop F fail ex0 K f ho hl h0 j n (i + 1) s' (by omega) (by omega)
    have hx := ho (f.1.getD i itm0) (by rw [getD_lt (show i < f.1.length by omega)]; exact List.getElem_mem _)
    have hb := btw_iff.1 (okI_iff.1 hx).1
    have hp := (okI_iff.1 hx).2
    have hm : (f.1.getD i itm0).2.2.1 = -1 ∨ 0 ≤ (f.1.getD i itm0).2.2.1 := by
      rcases hp with hp | hp
      · exact .inl hp.1
      · exact .inr (by unfold plcI at hp; exact (of_decide_eq_true hp).1)
    rw [qStored_l1F, qStored_l1]
    rw [Int.toNat_natCast, bif_true (tt (by omega)), bif_true (tt2 (by omega) (by omega)), drop_cons itm0 (show i < f.1.length by omega), sumI_cons, addI_eq (a := (i : Int)) (by omega) (by omega), nat1]
    by_cases c : (f.1.getD i itm0).2.2.1 = -1
    · rw [if_pos c, Int.zero_add]
      exact (bif_false (ff (by show ¬ (f.1.getD i itm0).2.2.1 ≥ 0; omega)) _ _).trans (ih s s0 (by omega))
    · rw [if_neg c, ← Int.add_assoc]
      refine (bif_true (tt (by show (f.1.getD i itm0).2.2.1 ≥ 0; omega)) _ _).trans ((bif_true (tt2 (by omega) (by omega)) _ _).trans ?_)
      rw [addI_eq (a := s)]
      · exact ih _ (Int.add_nonneg s0 (by show 0 ≤ (f.1.getD i itm0).2.1; omega)) (by show s + (f.1.getD i itm0).2.1 ≤ _; omega)
      · show _ ≤ s + (f.1.getD i itm0).2.1; omega
      · show s + (f.1.getD i itm0).2.1 < _; omega
theorem qStored_plain (f : Frg) (_ : qStored_P f = true) : ∃ F, ∀ {X : Type} (fail : X) (ret : Int → Int → X), qStored F f fail ret = ret (qStored_r0 f) (qStored_r1 f) := ⟨f.1.length + 1, fun fail ret => by
  unfold qStored qStored_r0 qStored_r1 qCheck_r
  rw [bif_true (c := qCheck_P f) rfl]
  by_cases c : chkI f = 0
  · rw [bif_false (bne_f c), if_pos c]
    have h := chk_ok c
    refine (qStored_loop (f.1.length + 1) fail _ (fun s => ret s 0) f h.2 h.1 (fun _ _ => rfl) f.1.length _ 0 0 (by omega) (by omega) (by omega) (by omega)).trans ?_
    rw [List.drop_zero, Int.zero_add, c]
  · rw [bif_true (bne_t c), if_neg c]⟩
theorem qSame_loop {X : Type} (F : Nat) (fail : X) (ex0 ex1 : Bool → Int → Frg → Frg → X) (kt kf : X) (a b : Frg) (hl : a.1.length = b.1.length) (ha : a.1.length ≤ 1000000000000) (h0 : ∀ i : Int, ex0 false i a b = kf) (h1 : ∀ s (i : Int), ex1 s i a b = kt) : ∀ (j m i : Nat) (s4 : Bool), i + j = a.1.length → j ≤ m →
    qSame_l1F F fail ex0 ex1 (m + 1) s4 i a b = if a.1.drop i = b.1.drop i then kt else kf
  | 0, m, i, s4, hi, _ => by
    rw [qSame_l1F, qSame_l1]
    rw [bif_false (ff (by omega)), h1, List.drop_eq_nil_of_le (by omega), List.drop_eq_nil_of_le (by omega), if_pos rfl]
  | j + 1, 0, i, _, _, hm => absurd hm (by omega)
  | j + 1, m + 1, i, s4, hi, hm => by
    have ih := qSame_loop F fail ex0 ex1 kt kf a b hl ha h0 h1 j m (i + 1) s4 (by omega) (by omega)
    rw [qSame_l1F, qSame_l1]
    rw [bif_true (tt (by omega)), bif_true (tt2 (by omega) (by omega)), bif_true (tt2 (by omega) (by omega)), Int.toNat_natCast, beqT_dec (.pair (.arr 32 (.int .u8)) (.pair (.int .i64) (.pair (.int .i64) (.pair (.int .i64) .unit)))) rfl, drop_cons itm0 (show i < a.1.length by omega), drop_cons itm0 (show i < b.1.length by omega)]
    by_cases c : a.1.getD i itm0 = b.1.getD i itm0
    · refine (bif_false (not_f (tt c)) _ _).trans ?_
      rw [addI_eq (by omega) (by omega), c, nat1, ih]
      simp only [List.cons.injEq, true_and]
    · refine (bif_true (not_t (ff c)) _ _).trans ?_
      rw [h0, if_neg (fun e => c (List.cons.inj e).1)]
theorem qSame_plain (a b : Frg) (h : qSame_P a b = true) : ∃ F, ∀ {X : Type} (fail : X) (ret : Bool → X), qSame F a b fail ret = ret (qSame_r a b) := ⟨a.1.length + 1, fun fail ret => by
  simp only [qSame_P, decide_eq_true_eq] at h
  unfold qSame qSame_r
  by_cases hl : a.1.length = b.1.length
  · rw [bif_false (bne_f (by omega))]
    refine (qSame_loop (a.1.length + 1) fail _ _ (ret true) (ret false) a b hl h.1 (fun _ => rfl) (fun _ _ => rfl) a.1.length _ 0 false (by omega) (by omega)).trans ?_
    rw [List.drop_zero, List.drop_zero]
    by_cases c : a.1 = b.1
    · rw [if_pos c, tt (Prod.ext c rfl)]
    · rw [if_neg c, ff (fun e => c (by rw [e]))]
  · rw [bif_true (bne_t (by omega)), ff (fun e => hl (by rw [e]))]⟩
theorem ints_loop {X : Type} (F : Nat) (fail : X) (ex0 ex1 : List Int → List Int → Bool → Int → X) (kt kf : X) (a b : List Int) (hl : a.length = b.length) (ha : a.length ≤ 1000000000000) (h0 : ∀ i : Nat, ex0 a b false i = kf) (h1 : ∀ s (i : Nat), ex1 a b s i = kt) : ∀ (j m i : Nat) (s4 : Bool), i + j = a.length → j ≤ m →
    qSameInts_l1F F fail ex0 ex1 (m + 1) a b s4 i = if a.drop i = b.drop i then kt else kf
  | 0, m, i, s4, hi, _ => by
    rw [qSameInts_l1F, qSameInts_l1]
    rw [bif_false (ff (by omega)), h1, List.drop_eq_nil_of_le (by omega), List.drop_eq_nil_of_le (by omega), if_pos rfl]
  | j + 1, 0, i, _, _, hm => absurd hm (by omega)
  | j + 1, m + 1, i, s4, hi, hm => by
    have ih := ints_loop F fail ex0 ex1 kt kf a b hl ha h0 h1 j m (i + 1) s4 (by omega) (by omega)
    rw [qSameInts_l1F, qSameInts_l1]
    rw [bif_true (tt (by omega)), bif_true (tt2 (by omega) (by omega)), bif_true (tt2 (by omega) (by omega)), Int.toNat_natCast, drop_cons (0 : Int) (show i < a.length by omega), drop_cons (0 : Int) (show i < b.length by omega)]
    by_cases c : a.getD i 0 = b.getD i 0
    · rw [bif_false (bne_f c), addI_eq (by omega) (by omega), c, nat1, ih]
      simp only [List.cons.injEq, true_and]
    · rw [bif_true (bne_t c), h0, if_neg (fun e => c (List.cons.inj e).1)]
theorem qSameInts_plain (a b : List Int) (h : qSameInts_P a b = true) : ∃ F, ∀ {X : Type} (fail : X) (ret : Bool → X), qSameInts F a b fail ret = ret (qSameInts_r a b) := ⟨a.length + 1, fun fail ret => by
  simp only [qSameInts_P, decide_eq_true_eq] at h
  unfold qSameInts qSameInts_r
  by_cases hl : a.length = b.length
  · rw [bif_false (bne_f (by omega))]
    refine (ints_loop (a.length + 1) fail _ _ (ret true) (ret false) a b hl h.1 (fun _ => rfl) (fun _ _ => rfl) a.length _ 0 false (by omega) (by omega)).trans ?_
    rw [List.drop_zero, List.drop_zero]
    by_cases c : a = b
    · rw [if_pos c, tt c]
    · rw [if_neg c, ff c]
  · rw [bif_true (bne_t (by omega)), ff (fun e => hl (by rw [e]))]⟩
theorem shortG_iff {a : List (List Int)} : shortG a = true ↔ a.length ≤ 1000000000000 ∧ ∀ x, x ∈ a → x.length ≤ 1000000000000 := by simp [shortG]
theorem groups_loop {X : Type} (F : Nat) (fail : X) (ex0 ex1 : List (List Int) → List (List Int) → Bool → Int → X) (kt kf : X) (a b : List (List Int)) (hl : a.length = b.length) (ha : shortG a = true) (hb : shortG b = true) (h0 : ∀ i : Nat, ex0 a b false i = kf) (h1 : ∀ s (i : Nat), ex1 a b s i = kt) : ∀ (j m i : Nat) (s4 : Bool), i + j = a.length → j ≤ m →
    qSameGroups_l1F F fail ex0 ex1 (m + 1) a b s4 i = if a.drop i = b.drop i then kt else kf
  | 0, m, i, s4, hi, _ => by
    rw [qSameGroups_l1F, qSameGroups_l1]
    rw [bif_false (ff (by omega)), h1, List.drop_eq_nil_of_le (by omega), List.drop_eq_nil_of_le (by omega), if_pos rfl]
  | j + 1, 0, i, _, _, hm => absurd hm (by omega)
  | j + 1, m + 1, i, s4, hi, hm => by
    have ih := groups_loop F fail ex0 ex1 kt kf a b hl ha hb h0 h1 j m (i + 1) s4 (by omega) (by omega)
    have ha' := shortG_iff.1 ha
    have hb' := shortG_iff.1 hb
    have hp : qSameInts_P (a.getD i []) (b.getD i []) = true := tt ⟨ha'.2 _ (by rw [getD_lt (show i < a.length by omega)]; exact List.getElem_mem _), hb'.2 _ (by rw [getD_lt (show i < b.length by omega)]; exact List.getElem_mem _)⟩
    rw [qSameGroups_l1F, qSameGroups_l1]
    rw [bif_true (tt (by omega)), bif_true (tt2 (by omega) (by omega)), bif_true (tt2 (by omega) (by omega)), Int.toNat_natCast, bif_true hp, drop_cons ([] : List Int) (show i < a.length by omega), drop_cons ([] : List Int) (show i < b.length by omega)]
    unfold qSameInts_r
    by_cases c : a.getD i [] = b.getD i []
    · rw [bif_false (not_f (tt c)), addI_eq (by omega) (by omega), c, nat1, ih]
      simp only [List.cons.injEq, true_and]
    · rw [bif_true (not_t (ff c)), h0, if_neg (fun e => c (List.cons.inj e).1)]
theorem qSameGroups_plain (a b : List (List Int)) (h : qSameGroups_P a b = true) : ∃ F, ∀ {X : Type} (fail : X) (ret : Bool → X), qSameGroups F a b fail ret = ret (qSameGroups_r a b) := ⟨a.length + 1, fun fail ret => by
  unfold qSameGroups_P at h
  rw [Bool.and_eq_true] at h
  have ha := shortG_iff.1 h.1
  have hb := shortG_iff.1 h.2
  unfold qSameGroups qSameGroups_r
  by_cases hl : a.length = b.length
  · rw [bif_false (bne_f (by omega))]
    refine (groups_loop (a.length + 1) fail _ _ (ret true) (ret false) a b hl h.1 h.2 (fun _ => rfl) (fun _ _ => rfl) a.length _ 0 false (by omega) (by omega)).trans ?_
    rw [List.drop_zero, List.drop_zero]
    by_cases c : a = b
    · rw [if_pos c, tt c]
    · rw [if_neg c, ff c]
  · rw [bif_true (bne_t (by omega)), ff (fun e => hl (by rw [e]))]⟩
end Go.AI
