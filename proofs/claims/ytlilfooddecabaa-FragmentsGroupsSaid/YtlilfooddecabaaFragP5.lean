/- What the printed functions answer: groups, and the laws' own functions. -/
import Derived.Test.YtlilfooddecabaaFragP4
namespace Go.AI
open Go

theorem rem64 : ∀ i : Nat, i < 256 → (remB (UInt8.ofNat i) 64).toNat = i % 64 := by decide +kernel
theorem rem64N (x : UInt8) : (remB x 64).toNat = x.toNat % 64 := by
  have := rem64 x.toNat x.toNat_lt
  rwa [UInt8.ofNat_toNat] at this
theorem cv64 (x : UInt8) : cvBI (remB x 64) = ((x.toNat % 64 : Nat) : Int) := by rw [cvBI_eq, rem64N]

theorem fGroups_loop1 {X : Type} (F : Nat) (fail : X) (ex0 ex1 : List Int → Int → Int → Int → List Int → Int → Int → X) (k0 k1 : X) (l : List Int) (most s5 : Int) (hl : l.length ≤ 4096) (h0 : ∀ i : Nat, ex0 l i (l.length : Nat) i l most s5 = k0) (h1 : ∀ s4 i : Int, ex1 l s4 (l.length : Nat) i l most s5 = k1) : ∀ (j m i : Nat) (s4 : Int), i + j = l.length → j ≤ m →
    fGroups_l1F F fail ex0 ex1 (m + 1) l s4 (l.length : Nat) i l most s5 = if ((l.drop i).all fun n => btw n 1 65536) = true then k1 else k0
  | 0, m, i, s4, hi, _ => by
    rw [fGroups_l1F, fGroups_l1]
    rw [bif_false (ff (by omega)), h1, List.drop_eq_nil_of_le (by omega)]; rfl
  | j + 1, 0, i, _, _, hm => absurd hm (by omega)
  | j + 1, m + 1, i, s4, hi, hm => by
    have ih := fGroups_loop1 F fail ex0 ex1 k0 k1 l most s5 hl h0 h1 j m (i + 1) s4 (by omega) (by omega)
    rw [fGroups_l1F, fGroups_l1]
    unfold between_r
    rw [Int.toNat_natCast, bif_true (tt (by omega)), bif_true (tt2 (by omega) (by omega)), drop_cons (0 : Int) (show i < l.length by omega), List.all_cons]
    cases btw (l.getD i 0) 1 65536 with
    | false => rw [bif_true (c := !false) rfl, h0]; rfl
    | true => rw [bif_false (c := !true) rfl, addI_eq (by omega) (by omega), nat1, ih, Bool.true_and]
theorem fGroups_loop2 {X : Type} (F : Nat) (fail : X) (ex0 : Int → List Int → Int → Int → List Int → Int → Int → List (List Int) → Int → List Int → X) (K : List (List Int) → X) (l : List Int) (most s5 : Int) (hl : l.length ≤ 4096) (ho : ∀ x, x ∈ l → btw x 1 65536 = true)
    (h0 : ∀ (s i : Int) (out : List (List Int)) (g : List Int), out.length ≤ 4096 → ex0 s l (l.length : Nat) i l most s5 out most g = K (out ++ if g = [] then [] else [g])) : ∀ (j m i : Nat) (s : Int) (out : List (List Int)) (g : List Int), i + j = l.length → j ≤ m → out.length ≤ i → g.length ≤ i → 0 ≤ s → s ≤ 65536 * i →
    fGroups_l2F F fail ex0 (m + 1) s l (l.length : Nat) i l most s5 out most g = K (out ++ grpI most (l.drop i) i s g)
  | 0, m, i, s, out, g, hi, _, h3, _, _, _ => by
    have e : i = l.length := by omega
    subst e
    rw [fGroups_l2F, fGroups_l2]
    rw [bif_false (ff (by omega)), h0 _ _ _ _ (by omega), List.drop_length]; rfl
  | j + 1, 0, i, _, _, _, _, hm, _, _, _, _ => absurd hm (by omega)
  | j + 1, m + 1, i, s, out, g, hi, hm, h3, h4, s0, s1 => by
    have ih := fun s' out' g' => fGroups_loop2 F fail ex0 K l most s5 hl ho h0 j m (i + 1) s' out' g' (by omega) (by omega)
    have hx := btw_iff.1 (ho (l.getD i 0) (by rw [getD_lt (show i < l.length by omega)]; exact List.getElem_mem _))
    rw [fGroups_l2F, fGroups_l2]
    rw [Int.toNat_natCast, bif_true (tt (by omega)), bif_true (tt2 (by omega) (by omega)), drop_cons (0 : Int) (show i < l.length by omega), grpI]
    generalize l.getD i 0 = x at hx ⊢
    rw [addI_eq (a := s) (by omega) (by omega), addI_eq (a := 0) (by omega) (by omega), addI_eq (a := (i : Int)) (by omega) (by omega), nat1, Int.zero_add]
    have hbg : decide ((g ++ [(i : Int)]).length ≤ big) = true := le_big (by rw [List.length_append, List.length_singleton]; omega)
    have hbo : decide ((out ++ [g]).length ≤ big) = true := le_big (by rw [List.length_append, List.length_singleton]; omega)
    have lg : (g ++ [(i : Int)]).length = g.length + 1 := by rw [List.length_append, List.length_singleton]
    have lo : (out ++ [g]).length = out.length + 1 := by rw [List.length_append, List.length_singleton]
    have add : fGroups_l2F F fail ex0 (m + 1) (s + x) l (l.length : Nat) ((i + 1 : Nat) : Int) l most s5 out most (g ++ [(i : Int)]) = K (out ++ grpI most (l.drop (i + 1)) (i + 1) (s + x) (g ++ [(i : Int)])) :=
      ih _ _ _ (by omega) (by rw [lg]; omega) (by omega) (by omega)
    by_cases c1 : g = []
    · rw [bif_false (ff (by rw [c1]; simp)), if_neg (fun c => c.1 c1), bif_true hbg]
      exact add
    · have : 0 < g.length := List.length_pos_iff.2 c1
      rw [bif_true (tt (by omega))]
      by_cases c2 : s + x > most
      · rw [bif_true (tt c2), bif_true hbo, if_pos ⟨c1, c2⟩]
        refine (ih _ _ _ (by rw [lo]; omega) (by simp) (by omega) (by omega)).trans ?_
        rw [List.append_assoc]; rfl
      · rw [bif_false (ff c2), bif_true hbg, if_neg (fun c => c2 c.2)]
        exact add
theorem fGroups_plain (l : List Int) (most : Int) (_ : fGroups_P l most = true) : ∃ F, ∀ {X : Type} (fail : X) (ret : List (List Int) → Int → X), fGroups F l most fail ret = ret (fGroups_r0 l most) (fGroups_r1 l most) := ⟨l.length + 1, fun fail ret => by
  unfold fGroups fGroups_r0 fGroups_r1 between_r
  by_cases c1 : l.length > 4096
  · have e : grpE l most = 6 := if_pos c1
    rw [bif_true (tt (by omega)), e]; rfl
  rw [bif_false (ff (by omega))]
  have e : grpE l most = if btw most 1 65536 = true ∧ (l.all fun n => btw n 1 65536) = true then 0 else 2 := if_neg c1
  cases c2 : btw most 1 65536 with
  | false =>
    rw [if_neg (fun c => by rw [c2] at c; cases c.1)] at e
    rw [bif_true (c := !false) rfl, e]; rfl
  | true =>
    rw [bif_false (c := !true) rfl]
    by_cases c3 : (l.all fun n => btw n 1 65536) = true
    · rw [if_pos ⟨c2, c3⟩] at e
      rw [e, if_pos rfl]
      refine (fGroups_loop1 (l.length + 1) fail _ _ (ret [] 2) (ret (grpI most l 0 0 []) 0) l most 0 (by omega) (fun i => bif_true (tt (by omega)) _ _) (fun s4 i => ?_) l.length _ 0 0 (by omega) (by omega)).trans ?_
      · refine (fGroups_loop2 (l.length + 1) fail _ (fun g => ret g 0) l most 0 (by omega) (fun x hx => List.all_eq_true.1 c3 x hx) (fun s i out g hb => ?_) l.length _ 0 0 [] [] (by omega) (by omega) (by simp) (by simp) (by omega) (by omega)).trans ?_
        · by_cases c4 : g = []
          · rw [if_pos c4, List.append_nil]
            exact bif_false (ff (by rw [c4]; simp)) _ _
          · rw [if_neg c4]
            have : 0 < g.length := List.length_pos_iff.2 c4
            exact (bif_true (tt (by omega)) _ _).trans (bif_true (le_big (by rw [List.length_append, List.length_singleton]; omega)) _ _)
        · rw [List.drop_zero, List.nil_append]
      · rw [List.drop_zero, if_pos c3]
    · rw [if_neg (fun c => c3 c.2)] at e
      rw [e, if_neg (by decide)]
      refine (fGroups_loop1 (l.length + 1) fail _ _ (ret [] 2) _ l most 0 (by omega) (fun i => bif_true (tt (by omega)) _ _) (fun s4 i => rfl) l.length _ 0 0 (by omega) (by omega)).trans ?_
      rw [List.drop_zero, if_neg c3]⟩

theorem few_loop {X : Type} (F : Nat) (fail : X) (ex0 ex1 : List (List UInt8) → Bool → Int → X) (kt kf : X) (l : List (List UInt8)) (h0 : ∀ i : Nat, ex0 l false i = kf) (h1 : ∀ s (i : Nat), ex1 l s i = kt) : ∀ (j m i : Nat) (s2 : Bool), i + j = 30 → j ≤ m →
    law46_few_l1F F fail ex0 ex1 (m + 1) l s2 i = if ((l.drop i).take (30 - i)).all (fun x => decide (x.length ≤ 300)) then kt else kf
  | 0, m, i, s2, hi, _ => by
    have e : i = 30 := by omega
    subst e
    rw [law46_few_l1F, law46_few_l1]
    rw [Nat.sub_self, List.take_zero]
    by_cases c : ((30 : Nat) : Int) < (l.length : Int)
    · rw [bif_true (tt c), bif_false (ff (by omega)), h1]; rfl
    · rw [bif_false (ff c), h1]; rfl
  | j + 1, 0, i, _, _, hm => absurd hm (by omega)
  | j + 1, m + 1, i, s2, hi, hm => by
    have ih := few_loop F fail ex0 ex1 kt kf l h0 h1 j m (i + 1) s2 (by omega) (by omega)
    rw [law46_few_l1F, law46_few_l1]
    by_cases c : (i : Int) < (l.length : Int)
    · have e1 : 30 - i = (30 - (i + 1)) + 1 := by omega
      rw [bif_true (tt c), bif_true (tt (by omega)), bif_true (tt2 (by omega) (by omega)), Int.toNat_natCast, drop_cons ([] : List UInt8) (show i < l.length by omega), e1, List.take_succ_cons, List.all_cons]
      by_cases c2 : ((l.getD i ([] : List UInt8)).length : Int) > 300
      · rw [bif_true (tt c2), h0, ff (by omega)]; rfl
      · rw [bif_false (ff c2), addI_eq (by omega) (by omega), nat1, ih, tt (show (l.getD i ([] : List UInt8)).length ≤ 300 by omega), Bool.true_and]
    · rw [bif_false (ff c), h1, List.drop_eq_nil_of_le (by omega), List.take_nil]; rfl
theorem law46_few_plain (l : List (List UInt8)) (_ : law46_few_P l = true) : ∃ F, ∀ {X : Type} (fail : X) (ret : Bool → X), law46_few F l fail ret = ret (law46_few_r l) := ⟨31, fun fail ret => by
  unfold law46_few law46_few_r
  refine (few_loop 31 fail _ _ (ret (decide ((l.length : Int) ≤ 30))) (ret false) l (fun _ => rfl) (fun _ _ => rfl) 30 30 0 false rfl (Nat.le_refl _)).trans ?_
  rw [List.drop_zero, Nat.sub_zero]
  have e : decide ((l.length : Int) ≤ 30) = decide (l.length ≤ 30) := by
    by_cases c : l.length ≤ 30
    · rw [tt c, tt (by omega)]
    · rw [ff c, ff (by omega)]
  rw [e]
  cases (List.take 30 l).all fun x => decide (x.length ≤ 300) <;> rfl⟩
theorem sizes_loop {X : Type} (F : Nat) (fail : X) (ex0 : List UInt8 → Int → List Int → X) (l : List UInt8) (hl : l.length ≤ 1000000) : ∀ (j m i : Nat) (out : List Int), i + j = l.length → j ≤ m → out.length = i →
    law46_sizes_l1F F fail ex0 (m + 1) l i out = ex0 l (l.length : Nat) (out ++ law46_sizes_r (l.drop i))
  | 0, m, i, out, hi, _, _ => by
    have e : i = l.length := by omega
    subst e
    rw [law46_sizes_l1F, law46_sizes_l1]
    rw [bif_false (ff (by omega)), List.drop_length, show law46_sizes_r [] = [] from rfl, List.append_nil]
  | j + 1, 0, i, _, _, hm, _ => absurd hm (by omega)
  | j + 1, m + 1, i, out, hi, hm, ho => by
    have ih := fun out' => sizes_loop F fail ex0 l hl j m (i + 1) out' (by omega) (by omega)
    rw [law46_sizes_l1F, law46_sizes_l1]
    rw [Int.toNat_natCast, bif_true (tt (by omega)), bif_true (tt2 (by omega) (by omega)), drop_cons (0 : UInt8) (show i < l.length by omega), show ∀ x r, law46_sizes_r (x :: r) = ((x.toNat % 64 + 1 : Nat) : Int) :: law46_sizes_r r from fun _ _ => rfl]
    generalize l.getD i 0 = x
    rw [cv64, addI_eq (by omega) (by omega), bif_true (le_big (by rw [List.length_append, List.length_singleton]; omega)), addI_eq (by omega) (by omega), nat1, nat1, ih _ (by rw [List.length_append, List.length_singleton, ho]), List.append_assoc]; rfl
theorem law46_sizes_plain (l : List UInt8) (h : law46_sizes_P l = true) : ∃ F, ∀ {X : Type} (fail : X) (ret : List Int → X), law46_sizes F l fail ret = ret (law46_sizes_r l) := ⟨l.length + 1, fun fail ret => by
  simp only [law46_sizes_P, decide_eq_true_eq] at h
  unfold law46_sizes
  refine (sizes_loop (l.length + 1) fail _ l h l.length _ 0 [] (by omega) (by omega) rfl).trans ?_
  rw [List.drop_zero, List.nil_append]⟩
theorem coll_loop2 {X : Type} (F : Nat) (fail : X) (ex0 ex1 : List (List UInt8) → Bool → Int → Int → X) (kt kf : X) (l : List (List UInt8)) (i : Nat) (hi : i < l.length) (hl : l.length ≤ 1000000) (hs : ∀ x, x ∈ l → x.length ≤ 1000000000) (s2 : Bool) (h0 : ∀ k : Nat, ex0 l true i k = kt) (h1 : ex1 l s2 i i = kf) : ∀ (j m k : Nat), k + j = i → j ≤ m →
    qCollide_l2F F fail ex0 ex1 (m + 1) l s2 i k = if (((List.range i).drop k).any (collAt l i)) = true then kt else kf
  | 0, m, k, hi, _ => by
    have e : k = i := by omega
    subst e
    rw [qCollide_l2F, qCollide_l2]
    rw [bif_false (ff (by omega)), h1, List.drop_eq_nil_of_le (by rw [List.length_range]; omega)]; rfl
  | j + 1, 0, k, _, hm => absurd hm (by omega)
  | j + 1, m + 1, k, hk, hm => by
    have ih := coll_loop2 F fail ex0 ex1 kt kf l i hi hl hs s2 h0 h1 j m (k + 1) (by omega) (by omega)
    have ei : (decide ((0 : Int) ≤ (i : Int)) && decide ((i : Int) < ((l.length : Nat) : Int))) = true := tt2 (by omega) (by omega)
    have ek : (decide ((0 : Int) ≤ (k : Int)) && decide ((k : Int) < ((l.length : Nat) : Int))) = true := tt2 (by omega) (by omega)
    have pi : rSum_P (l.getD i []) = true := tt (hs _ (by rw [getD_lt hi]; exact List.getElem_mem _))
    have pk : rSum_P (l.getD k []) = true := tt (hs _ (by rw [getD_lt (show k < l.length by omega)]; exact List.getElem_mem _))
    rw [qCollide_l2F, qCollide_l2]
    rw [Int.toNat_natCast, Int.toNat_natCast, ei, ek, pi, pk]
    rw [bif_true (tt (by omega)), cond_true, cond_true, cond_true, cond_true, cond_true, drop_cons 0 (show k < (List.range i).length by rw [List.length_range]; omega), show (List.range i).getD k 0 = k by rw [getD_lt (by rw [List.length_range]; omega), List.getElem_range], List.any_cons]
    rw [addI_eq (a := (k : Int)) (by omega) (by omega), nat1, ih, beqT_dec (.arr 32 (.int .u8)) rfl, h0]
    unfold collAt
    by_cases c1 : (l.getD i []).length = (l.getD k []).length
    · rw [bif_true (beq_t (by omega))]
      by_cases c2 : l.getD i [] = l.getD k []
      · rw [show ((l.getD i []) == (l.getD k [])) = true from beq_iff_eq.2 c2, bif_false (c := !true) rfl, ff (fun c => c.2.1 c2), Bool.false_or]
      · rw [show ((l.getD i []) == (l.getD k [])) = false from beq_eq_false_iff_ne.2 c2, bif_true (c := !false) rfl]
        by_cases c3 : rSum_r (l.getD i []) = rSum_r (l.getD k [])
        · rw [tt c3, cond_true, tt ⟨c1, c2, c3⟩]; rfl
        · rw [ff c3, cond_false, ff (fun c => c3 c.2.2), Bool.false_or]; rfl
    · rw [bif_false (beq_f (by omega)), ff (fun c => c1 c.1), Bool.false_or]
theorem coll_loop1 {X : Type} (F : Nat) (fail : X) (ex0 ex1 : List (List UInt8) → Bool → Int → X) (kt kf : X) (l : List (List UInt8)) (hF : l.length < F) (hl : l.length ≤ 1000000) (hs : ∀ x, x ∈ l → x.length ≤ 1000000000) (s2 : Bool) (h0 : ∀ i : Nat, ex0 l true i = kt) (h1 : ∀ i : Nat, ex1 l s2 i = kf) : ∀ (j m i : Nat), i + j = l.length → j ≤ m →
    qCollide_l1F F fail ex0 ex1 (m + 1) l s2 i = if (((List.range l.length).drop i).any fun i => (List.range i).any (collAt l i)) = true then kt else kf
  | 0, m, i, hi, _ => by
    have e : i = l.length := by omega
    subst e
    rw [qCollide_l1F, qCollide_l1]
    rw [bif_false (ff (by omega)), h1, List.drop_eq_nil_of_le (by rw [List.length_range]; omega)]; rfl
  | j + 1, 0, i, _, hm => absurd hm (by omega)
  | j + 1, m + 1, i, hk, hm => by
    have ih := coll_loop1 F fail ex0 ex1 kt kf l hF hl hs s2 h0 h1 j m (i + 1) (by omega) (by omega)
    rw [qCollide_l1F, qCollide_l1]
    rw [bif_true (tt (by omega)), drop_cons 0 (show i < (List.range l.length).length by rw [List.length_range]; omega), show (List.range l.length).getD i 0 = i by rw [getD_lt (by rw [List.length_range]; omega), List.getElem_range], List.any_cons]
    obtain ⟨F', rfl⟩ : ∃ F', F = F' + 1 := ⟨F - 1, by omega⟩
    refine (coll_loop2 (F' + 1) fail _ _ kt (qCollide_l1F (F' + 1) fail ex0 ex1 (m + 1) l s2 ((i + 1 : Nat) : Int)) l i (by omega) hl hs s2 (fun k => h0 i) (by rw [addI_eq (by omega) (by omega), nat1]) i F' 0 (by omega) (by omega)).trans ?_
    rw [List.drop_zero, ih]
    cases (List.range i).any (collAt l i) <;> rfl
theorem qCollide_plain (l : List (List UInt8)) (h : qCollide_P l = true) : ∃ F, ∀ {X : Type} (fail : X) (ret : Bool → X), qCollide F l fail ret = ret (qCollide_r l) := ⟨l.length + 1, fun fail ret => by
  simp only [qCollide_P, Bool.and_eq_true, decide_eq_true_eq, List.all_eq_true] at h
  unfold qCollide qCollide_r
  refine (coll_loop1 (l.length + 1) fail _ _ (ret true) (ret false) l (by omega) h.1 h.2 false (fun _ => rfl) (fun _ => rfl) l.length _ 0 (by omega) (by omega)).trans ?_
  rw [List.drop_zero]
  cases ((List.range l.length).any fun i => (List.range i).any (collAt l i)) <;> rfl⟩
end Go.AI
