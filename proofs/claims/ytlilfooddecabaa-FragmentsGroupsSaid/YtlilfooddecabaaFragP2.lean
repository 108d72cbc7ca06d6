/- What the printed functions of fragments answer: the functions of an index. -/
import Derived.Test.YtlilfooddecabaaFragP
namespace Go.AI
open Go

theorem fCheck_plain (f : Frg) (_ : fCheck_P f = true) : ∃ F, ∀ {X : Type} (fail : X) (ret : Int → X), fCheck F f fail ret = ret (fCheck_r f) := ⟨f.1.length + 1, fun fail ret => by
  unfold fCheck fCheck_r chkI
  by_cases c : f.1.length > 4096
  · rw [bif_true (tt (by omega)), if_pos c]
  · rw [bif_false (ff (by omega)), if_neg c]
    refine (fCheck_loop (f.1.length + 1) fail _ _ (ret 0) ret f.1 (by omega) (fun _ _ _ _ _ => rfl) (fun _ _ _ _ => rfl) f.1.length _ 0 0 [] (by omega) (by omega) mapI_nil).trans ?_
    rw [List.take_zero, List.drop_zero]
    split
    · rename_i h; rw [h]
    · rfl⟩
theorem chk_cases (f : Frg) : (f.1.length > 4096 ∧ chkI f = 6) ∨ (f.1.length ≤ 4096 ∧ chkI f = goI [] f.1) := by
  unfold chkI
  by_cases c : f.1.length > 4096
  · exact .inl ⟨c, if_pos c⟩
  · exact .inr ⟨by omega, if_neg c⟩
theorem fFind_plain (f : Frg) (d : List UInt8) (n : Int) (_ : fFind_P f d n = true) : ∃ F, ∀ {X : Type} (fail : X) (ret : Int → Bool → X), fFind F f d n fail ret = ret (fFind_r0 f d n) (fFind_r1 f d n) := ⟨f.1.length + 1, fun fail ret => by
  unfold fFind fFind_r0 fFind_r1
  rcases chk_cases f with ⟨c, e⟩ | ⟨c, e⟩ <;> rw [e]
  · rw [bif_true (tt (by omega)), if_neg (by omega)]; rfl
  · rw [bif_false (ff (by omega))]
    refine (fFind_loop (f.1.length + 1) fail _ _ (ret (if hasI f.1 d n = true then (idxI d n f.1 : Nat) else 0) (hasI f.1 d n)) (fun _ => ret 0 false) f.1 n d c (fun e i a m he => bif_true (bne_t he) _ _) (fun _ _ m hm => ?_) f.1.length _ 0 0 [] (by omega) (by omega) mapI_nil).trans ?_
    · have e := hm.2 d n
      refine (congrArg (fun o : Option Int => ret (Option.getD o 0) (Option.isSome o)) e).trans ?_
      cases hasI f.1 d n <;> rfl
    · rw [List.take_zero, List.drop_zero]
      by_cases h : goI [] f.1 = 0
      · rw [if_pos h, tt h, Bool.true_and]
        cases hasI f.1 d n with
        | false => rw [if_neg (fun c : goI [] f.1 = 0 ∧ false = true => absurd c.2 (by decide)), if_neg (by decide)]
        | true => rw [if_pos (show goI [] f.1 = 0 ∧ true = true from ⟨h, rfl⟩), if_pos rfl]
      · rw [if_neg h, ff h, Bool.false_and, if_neg (fun c => h c.1)]⟩
theorem addK_cases (f : Frg) (b : List UInt8) : (b.length > 65536 ∧ addK f b = (fr0, (0, (false, 5)))) ∨ (b.length = 0 ∧ addK f b = (fr0, (0, (false, 1)))) ∨
    (0 < b.length ∧ b.length ≤ 65536 ∧ hasI f.1 (dSum_r b) b.length = true ∧ addK f b = (f, (((idxI (dSum_r b) b.length f.1 : Nat) : Int), (false, 0)))) ∨
    (0 < b.length ∧ b.length ≤ 65536 ∧ hasI f.1 (dSum_r b) b.length = false ∧ f.1.length ≥ 4096 ∧ addK f b = (fr0, (0, (false, 11)))) ∨
    (0 < b.length ∧ b.length ≤ 65536 ∧ hasI f.1 (dSum_r b) b.length = false ∧ f.1.length < 4096 ∧ addK f b = ((f.1 ++ [(dSum_r b, ((b.length : Int), (-1, (0, ()))))], ()), (((f.1.length : Nat) : Int), (true, 0)))) := by
  unfold addK
  by_cases c1 : b.length > 65536
  · exact .inl ⟨c1, by rw [if_pos c1]⟩
  · by_cases c2 : b.length = 0
    · exact .inr (.inl ⟨c2, by rw [if_neg c1, if_pos c2]⟩)
    · cases c3 : hasI f.1 (dSum_r b) b.length with
      | true => exact .inr (.inr (.inl ⟨by omega, by omega, rfl, by rw [if_neg c1, if_neg c2, if_pos rfl]⟩))
      | false =>
        by_cases c4 : f.1.length ≥ 4096
        · exact .inr (.inr (.inr (.inl ⟨by omega, by omega, rfl, c4, by rw [if_neg c1, if_neg c2, if_neg (by simp), if_pos c4]⟩)))
        · exact .inr (.inr (.inr (.inr ⟨by omega, by omega, rfl, by omega, by rw [if_neg c1, if_neg c2, if_neg (by simp), if_neg c4]⟩)))
theorem fAdd_plain (f : Frg) (b : List UInt8) (_ : fAdd_P f b = true) : ∃ F, ∀ {X : Type} (fail : X) (ret : Frg → Int → Bool → Int → X), fAdd F f b fail ret = ret (fAdd_r0 f b) (fAdd_r1 f b) (fAdd_r2 f b) (fAdd_r3 f b) := ⟨f.1.length + 1, fun fail ret => by
  unfold fAdd fAdd_r0 fAdd_r1 fAdd_r2 fAdd_r3 addI_
  rcases chk_cases f with ⟨c, e⟩ | ⟨c, e⟩
  · rw [bif_true (tt (by omega)), e]; rfl
  · rw [bif_false (ff (by omega))]
    refine (fAdd_loop (f.1.length + 1) fail _ _ (ret (addK f b).1 (addK f b).2.1 (addK f b).2.2.1 (addK f b).2.2.2) (fun e => ret fr0 0 false e) f.1 b fr0 c (fun e i a m he => bif_true (bne_t he) _ _) (fun _ _ m hm => ?_) f.1.length _ 0 0 [] (by omega) (by omega) mapI_nil).trans ?_
    · have hf := hm.2 (dSum_r b) (b.length : Int)
      have hl := hm.1.1
      rcases addK_cases f b with ⟨k1, k⟩ | ⟨k1, k⟩ | ⟨k1, k2, k3, k⟩ | ⟨k1, k2, k3, k4, k⟩ | ⟨k1, k2, k3, k4, k⟩ <;> rw [k]
      · exact bif_true (tt (by omega)) _ _
      · exact (bif_false (ff (by omega)) _ _).trans (bif_true (beq_t (by omega)) _ _)
      all_goals
        rw [k3] at hf
        refine (bif_false (ff (by omega)) _ _).trans ((bif_false (beq_f (by omega)) _ _).trans ((bif_true (tt (by omega)) _ _).trans ?_))
        rw [hf]
      · rfl
      · exact bif_true (tt (by omega)) _ _
      · refine (bif_false (ff (by omega)) _ _).trans ((bif_true (tt (by unfold big; omega)) _ _).trans (bif_true (le_big ?_) _ _))
        rw [List.length_append, List.length_singleton]; omega
    · rw [List.take_zero, List.drop_zero, ← e]
      by_cases h : chkI f = 0
      · rw [if_pos h, if_pos h]
      · rw [if_neg h, if_neg h]⟩
theorem plaK_cases (f : Frg) (k b a : Int) : (¬ (0 ≤ k ∧ k < f.1.length) ∧ plaK f k b a = (fr0, 7)) ∨ ((0 ≤ k ∧ k < f.1.length) ∧ (f.1.getD k.toNat itm0).2.2.1 ≠ -1 ∧ plaK f k b a = (fr0, 12)) ∨
    ((0 ≤ k ∧ k < f.1.length) ∧ (f.1.getD k.toNat itm0).2.2.1 = -1 ∧ plcI (f.1.getD k.toNat itm0).2.1 b a = false ∧ plaK f k b a = (fr0, 2)) ∨
    ((0 ≤ k ∧ k < f.1.length) ∧ (f.1.getD k.toNat itm0).2.2.1 = -1 ∧ plcI (f.1.getD k.toNat itm0).2.1 b a = true ∧ plaK f k b a = ((f.1.set k.toNat ((f.1.getD k.toNat itm0).1, ((f.1.getD k.toNat itm0).2.1, (b, (a, ())))), ()), 0)) := by
  unfold plaK
  by_cases c1 : 0 ≤ k ∧ k < f.1.length
  · by_cases c2 : (f.1.getD k.toNat itm0).2.2.1 = -1
    · cases c3 : plcI (f.1.getD k.toNat itm0).2.1 b a with
      | false => exact .inr (.inr (.inl ⟨c1, c2, rfl, by rw [if_pos c1, if_pos c2, if_neg (by simp)]⟩))
      | true => exact .inr (.inr (.inr ⟨c1, c2, rfl, by rw [if_pos c1, if_pos c2, if_pos rfl]⟩))
    · exact .inr (.inl ⟨c1, c2, by rw [if_pos c1, if_neg c2]⟩)
  · exact .inl ⟨c1, if_neg c1⟩
theorem goI_ok : ∀ (r p : List Itm), goI p r = 0 → ∀ x, x ∈ r → okI x = true
  | y :: r, p, h, x, hx => by
    unfold goI at h
    split at h
    · rename_i hy
      split at h
      · cases h
      · rcases List.mem_cons.1 hx with rfl | hx
        · exact hy
        · exact goI_ok r _ h x hx
    · cases h
theorem chk_ok {f : Frg} (h : chkI f = 0) : f.1.length ≤ 4096 ∧ ∀ x, x ∈ f.1 → okI x = true := by
  rcases chk_cases f with ⟨_, e⟩ | ⟨c, e⟩
  · rw [e] at h; cases h
  · exact ⟨c, goI_ok _ _ (e ▸ h)⟩
theorem set_set {α : Type} (l : List α) (k : Nat) (a b : α) : (l.set k a).set k b = l.set k b := by simp
theorem getD_set {α : Type} {l : List α} {k : Nat} (a d : α) (h : k < l.length) : (l.set k a).getD k d = a := by simp [List.getD, h]
theorem fPlace_plain (f : Frg) (k b a : Int) (_ : fPlace_P f k b a = true) : ∃ F, ∀ {X : Type} (fail : X) (ret : Frg → Int → X), fPlace F f k b a fail ret = ret (fPlace_r0 f k b a) (fPlace_r1 f k b a) := ⟨f.1.length + 1, fun fail ret => by
  unfold fPlace fPlace_r0 fPlace_r1 plaI
  rcases chk_cases f with ⟨c, e⟩ | ⟨c, e⟩
  · rw [bif_true (tt (by omega)), e]; rfl
  · rw [bif_false (ff (by omega))]
    refine (fPlace_loop (f.1.length + 1) fail _ _ (ret (plaK f k b a).1 (plaK f k b a).2) (fun e => ret fr0 e) f.1 k b a fr0 c (fun e i a m he => bif_true (bne_t he) _ _) (fun _ _ m hm => ?_) f.1.length _ 0 0 [] (by omega) (by omega) mapI_nil).trans ?_
    · have hs : subI ((f.1.length : Nat) : Int) 1 = (f.1.length : Int) - 1 := subI_eq (by omega) (by omega)
      have ho := plaK_cases f k b a
      by_cases k1 : 0 ≤ k ∧ k < f.1.length
      case neg =>
        rw [show plaK f k b a = (fr0, 7) from if_neg k1]
        exact bif_true (c := !(between_r k 0 (subI ((f.1.length : Nat) : Int) 1))) (by rw [hs]; exact not_t (btw_f (by omega))) _ _
      have hb : between_r k 0 (subI ((f.1.length : Nat) : Int) 1) = true := by rw [hs]; exact btw_iff.2 (by omega)
      have hx : okI (f.1.getD k.toNat itm0) = true := hm.1.2 _ (by rw [getD_lt (show k.toNat < f.1.length by omega)]; exact List.getElem_mem _)
      have hp : placed_P (f.1.getD k.toNat itm0).2.1 b a = true := (okI_iff.1 hx).1
      refine (bif_false (not_f hb) _ _).trans ((bif_true (tt2 k1.1 k1.2) _ _).trans ?_)
      rcases ho with ⟨k0, q⟩ | ⟨_, k2, q⟩ | ⟨_, k2, k3, q⟩ | ⟨_, k2, k3, q⟩ <;> rw [q]
      · exact absurd k1 k0
      · exact bif_true (bne_t k2) _ _
      all_goals refine (bif_false (bne_f k2) _ _).trans ((bif_true (tt2 k1.1 k1.2) _ _).trans ((bif_true hp _ _).trans ?_))
      · exact bif_true (not_t k3) _ _
      · refine (bif_false (not_f k3) _ _).trans ((bif_true (tt2 k1.1 k1.2) _ _).trans ((bif_true (tt2 k1.1 (by rw [List.length_set]; exact k1.2)) _ _).trans ?_))
        have e := fun x => getD_set (l := f.1) (k := k.toNat) x itm0 (by omega)
        show ret (((f.1.set k.toNat _).set k.toNat (((f.1.set k.toNat _).getD k.toNat itm0).1, (((f.1.set k.toNat _).getD k.toNat itm0).2.1, (((f.1.set k.toNat _).getD k.toNat itm0).2.2.1, (a, ((f.1.set k.toNat _).getD k.toNat itm0).2.2.2.2)))), ())) 0 = _
        rw [e, set_set]; rfl
    · rw [List.take_zero, List.drop_zero, ← e]
      by_cases h : chkI f = 0
      · rw [if_pos h, if_pos h]
      · rw [if_neg h, if_neg h]⟩
theorem sum_bound : ∀ (l : List Itm), (∀ x, x ∈ l → okI x = true) → 0 ≤ sumI l ∧ sumI l ≤ 65536 * l.length
  | [], _ => ⟨Int.le_refl _, by simp [sumI]⟩
  | x :: l, h => by
    obtain ⟨h1, h2⟩ := sum_bound l (fun y hy => h y (List.mem_cons_of_mem _ hy))
    have hx := btw_iff.1 (okI_iff.1 (h x List.mem_cons_self)).1
    have e : sumI (x :: l) = (if x.2.2.1 = -1 then 0 else x.2.1) + sumI l := by simp [sumI]
    rw [e, List.length_cons]
    split <;> omega
theorem sumI_cons (x : Itm) (l : List Itm) : sumI (x :: l) = (if x.2.2.1 = -1 then 0 else x.2.1) + sumI l := by simp [sumI]
theorem fStored_loop2 {X : Type} (F : Nat) (fail : X) (ex0 : Int → Int → Int → List Itm → X) (K : Int → X) (l : List Itm) (ho : ∀ x, x ∈ l → okI x = true) (hl : l.length ≤ 4096) (h0 : ∀ (s i : Int), ex0 s (l.length : Nat) i l = K s) : ∀ (j n i : Nat) (s : Int), i + j = l.length → j ≤ n → 0 ≤ s → s ≤ 65536 * i →
    fStored_l2F F fail ex0 (n + 1) s (l.length : Nat) i l = K (s + sumI (l.drop i))
  | 0, n, i, s, hi, _, _, _ => by
    have e : i = l.length := by omega
    subst e
    rw [fStored_l2F, fStored_l2]
    rw [bif_false (ff (by omega)), List.drop_length, h0, show sumI [] = 0 from rfl, Int.add_zero]
  | j + 1, 0, i, _, _, hn, _, _ => absurd hn (by omega)
  | j + 1, n + 1, i, s, hi, hn, s0, s1 => by
    have ih := fun s' => fStored_loop2 F fail ex0 K l ho hl h0 j n (i + 1) s' (by omega) (by omega)
    have hx := ho (l.getD i itm0) (by rw [getD_lt (show i < l.length by omega)]; exact List.getElem_mem _)
    have hb := btw_iff.1 (okI_iff.1 hx).1
    rw [fStored_l2F, fStored_l2]
    rw [Int.toNat_natCast, bif_true (tt (by omega)), bif_true (tt2 (by omega) (by omega)), drop_cons itm0 (show i < l.length by omega), sumI_cons, addI_eq (a := (i : Int)) (by omega) (by omega), nat1]
    by_cases c : (l.getD i itm0).2.2.1 = -1
    · rw [if_pos c, Int.zero_add]
      exact (bif_false (bne_f c) _ _).trans (ih s s0 (by omega))
    · rw [if_neg c, ← Int.add_assoc]
      refine (bif_true (bne_t c) _ _).trans ?_
      rw [addI_eq (a := s)]
      · exact ih _ (Int.add_nonneg s0 (by show 0 ≤ (l.getD i itm0).2.1; omega)) (by show s + (l.getD i itm0).2.1 ≤ _; omega)
      · show _ ≤ s + (l.getD i itm0).2.1; omega
      · show s + (l.getD i itm0).2.1 < _; omega
theorem fStored_plain (f : Frg) (_ : fStored_P f = true) : ∃ F, ∀ {X : Type} (fail : X) (ret : Int → Int → X), fStored F f fail ret = ret (fStored_r0 f) (fStored_r1 f) := ⟨f.1.length + 1, fun fail ret => by
  unfold fStored fStored_r0 fStored_r1
  rcases chk_cases f with ⟨c, e⟩ | ⟨c, e⟩
  · rw [bif_true (tt (by omega)), e]; rfl
  · rw [bif_false (ff (by omega))]
    refine (fStored_loop (f.1.length + 1) fail _ _ (ret (sumI f.1) 0) (fun e => ret 0 e) f.1 c (fun e i a m he => bif_true (bne_t he) _ _) (fun _ _ m hm => ?_) f.1.length _ 0 0 [] (by omega) (by omega) mapI_nil).trans ?_
    · refine (fStored_loop2 (f.1.length + 1) fail _ (fun s => ret s 0) f.1 hm.1.2 c (fun _ _ => rfl) f.1.length _ 0 0 (by omega) (by omega) (by omega) (by omega)).trans ?_
      rw [List.drop_zero, Int.zero_add]
    · rw [List.take_zero, List.drop_zero, ← e]
      by_cases h : chkI f = 0
      · rw [if_pos h, if_pos h, h]
      · rw [if_neg h, if_neg h]⟩
end Go.AI
