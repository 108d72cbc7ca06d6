/- Crashes. -/
import Derived.Test.YtaobeghgcfbcfaaDiskP2
namespace Go.AI
open Go

/- Maps with numbers as keys. -/
theorem eqI_t {a b : Int} (h : a = b) : beqT (.int .i64) a b = true := beq_t h
theorem eqI_f {a b : Int} (h : a ≠ b) : beqT (.int .i64) a b = false := beq_f h
theorem mfind_same {β : Type} (k : Int) (v : β) : ∀ m : List (Int × β), mfind (beqT (.int .i64)) k (mput (beqT (.int .i64)) k v m) = some v
  | [] => by rw [mput, mfind, eqI_t rfl]; rfl
  | e :: m => by
    rw [mput]
    by_cases h : k = e.1
    · rw [eqI_t h, cond_true, mfind, eqI_t rfl]; rfl
    · rw [eqI_f h, cond_false, mfind, eqI_f h, cond_false, mfind_same k v m]
theorem mfind_other {β : Type} {k k' : Int} (v : β) (hk : k ≠ k') : ∀ m : List (Int × β), mfind (beqT (.int .i64)) k (mput (beqT (.int .i64)) k' v m) = mfind (beqT (.int .i64)) k m
  | [] => by show (bif beqT (.int .i64) k k' then some v else none) = none; rw [eqI_f hk]; rfl
  | e :: m => by
    rw [mput]
    by_cases h : k' = e.1
    · rw [eqI_t h, cond_true, mfind, eqI_f hk, cond_false, mfind, eqI_f (by omega), cond_false]
    · rw [eqI_f h, cond_false, mfind, mfind, mfind_other v hk m]
theorem mput_len {β : Type} (k : Int) (v : β) : ∀ m : List (Int × β), (mput (beqT (.int .i64)) k v m).length ≤ m.length + 1
  | [] => by simp [mput]
  | e :: m => by
    rw [mput]
    by_cases h : k = e.1
    · rw [eqI_t h, cond_true]; simp
    · rw [eqI_f h, cond_false]; have := mput_len k v m; simp only [List.length_cons]; omega

theorem mput_put {β : Type} (k : Int) (u v : β) : ∀ m : List (Int × β), mput (beqT (.int .i64)) k v (mput (beqT (.int .i64)) k u m) = mput (beqT (.int .i64)) k v m
  | [] => by show (bif beqT (.int .i64) k k then _ else _) = _; rw [eqI_t rfl]; rfl
  | e :: m => by
    rw [mput, mput]
    by_cases h : k = e.1
    · rw [eqI_t h, cond_true, cond_true, mput, eqI_t rfl, cond_true]
    · rw [eqI_f h, cond_false, cond_false, mput, eqI_f h, cond_false, mput_put k u v m]

/- What is pending at a place. -/
def hasAt (l : List Pend) (a : Int) : Bool := l.any fun p => p.1 == a
def versL (s : List Page) (l : List Pend) (a : Int) : List Page := s.getD a.toNat z16 :: (l.filter fun p => p.1 == a).map fun p => p.2.1
theorem versD_eq (d : DK) (a : Int) : versD d a = versL d.1 d.2.1 a := rfl
theorem vers_len (s : List Page) (l : List Pend) (a : Int) : 1 ≤ (versL s l a).length ∧ (versL s l a).length ≤ l.length + 1 := by
  unfold versL
  have := List.length_filter_le (fun p : Pend => p.1 == a) l
  rw [List.length_cons, List.length_map]; omega
theorem has_snoc (l : List Pend) (p : Pend) (a : Int) : hasAt (l ++ [p]) a = (hasAt l a || (p.1 == a)) := by simp [hasAt, List.any_append]
theorem vers_snoc (s : List Page) (l : List Pend) (p : Pend) (a : Int) : versL s (l ++ [p]) a = if p.1 = a then versL s l a ++ [p.2.1] else versL s l a := by
  unfold versL
  rw [List.filter_append]
  by_cases h : p.1 = a
  · rw [if_pos h, List.filter_cons_of_pos (by simpa using h)]; simp
  · rw [if_neg h, List.filter_cons_of_neg (by simpa using h)]; simp
theorem firsts_snoc : ∀ (l : List Pend) (seen : List Int) (p : Pend), firsts (l ++ [p]) seen = firsts l seen ++ (if hasAt l p.1 || seen.contains p.1 then [] else [p.1])
  | [], seen, p => by
    show firsts [p] seen = [] ++ _
    unfold firsts hasAt
    cases h : seen.contains p.1 <;> simp [firsts]
  | x :: l, seen, p => by
    rw [List.cons_append]
    unfold firsts
    split
    · rename_i hx
      rw [firsts_snoc l seen p]
      congr 2
      by_cases e : x.1 = p.1
      · rw [e] at hx; rw [hx]; simp
      · simp [hasAt, e]
    · rename_i hx
      rw [firsts_snoc l (x.1 :: seen) p, List.cons_append]
      congr 3
      by_cases e : x.1 = p.1
      · simp [hasAt, e]
      · have e' : ¬ p.1 = x.1 := fun h => e h.symm
        simp [hasAt, e, e']
theorem firsts_mem : ∀ (l : List Pend) (seen : List Int) (a : Int), a ∈ firsts l seen → hasAt l a = true
  | [], _, _, h => by cases h
  | x :: l, seen, a, h => by
    unfold firsts at h
    split at h
    · have := firsts_mem l seen a h; simp only [hasAt, List.any_cons] at this ⊢; rw [this]; simp
    · rcases List.mem_cons.1 h with rfl | h
      · simp [hasAt]
      · have := firsts_mem l _ a h; simp only [hasAt, List.any_cons] at this ⊢; rw [this]; simp
theorem firsts_len : ∀ (l : List Pend) (seen : List Int), (firsts l seen).length ≤ l.length
  | [], _ => Nat.le_refl _
  | x :: l, seen => by
    unfold firsts
    split
    · have := firsts_len l seen; rw [List.length_cons]; omega
    · have := firsts_len l (x.1 :: seen); rw [List.length_cons, List.length_cons]; omega
theorem has_mem {l : List Pend} {a : Int} (h : hasAt l a = true) : ∃ p, p ∈ l ∧ p.1 = a := by
  obtain ⟨p, h1, h2⟩ := List.any_eq_true.1 h
  exact ⟨p, h1, by simpa using h2⟩
theorem has_ok {n : Nat} {l : List Pend} {a : Int} (ho : okP n l = true) (h : hasAt l a = true) : 0 ≤ a ∧ a < n := by
  obtain ⟨p, h1, rfl⟩ := has_mem h
  exact okP_iff.1 ho p h1
/-- What the map holds. -/
def MapIs (s : List Page) (l : List Pend) (m : List (Int × List Page)) : Prop := ∀ a, mfind (beqT (.int .i64)) a m = if hasAt l a then some (versL s l a) else none
theorem mapIs_step {s : List Page} {l : List Pend} {m m' : List (Int × List Page)} (p : Pend) (h : MapIs s l m) (hs : mfind (beqT (.int .i64)) p.1 m' = some (versL s l p.1 ++ [p.2.1])) (ho : ∀ a, a ≠ p.1 → mfind (beqT (.int .i64)) a m' = mfind (beqT (.int .i64)) a m) : MapIs s (l ++ [p]) m' := by
  intro a
  rw [has_snoc, vers_snoc]
  by_cases e : p.1 = a
  · subst e
    rw [hs, beq_t rfl, Bool.or_true, if_pos rfl, if_pos rfl]
  · rw [ho a (fun h => e h.symm), h a, beq_f e, Bool.or_false, if_neg e]

theorem cr_loop1 {X : Type} (F : Nat) (fail : X) (ex0 : List Int → List Pend → Int → Int → DK → DK → List (Int × List Page) → List Int → X) (ch : List Int) (d s4 : DK) (hs : d.2.1.length ≤ 100000000) (ho : okP d.1.length d.2.1 = true) (K : X)
    (hK : ∀ m, MapIs d.1 d.2.1 m → ex0 ch d.2.1 (d.2.1.length : Nat) (d.2.1.length : Nat) d s4 m (firsts d.2.1 []) = K) : ∀ (j n i : Nat) (m : List (Int × List Page)), i + j = d.2.1.length → j ≤ n → MapIs d.1 (d.2.1.take i) m → m.length ≤ i →
    dCrash_l1F F fail ex0 (n + 1) ch d.2.1 (d.2.1.length : Nat) i d s4 m (firsts (d.2.1.take i) []) = K
  | 0, n, i, m, hi, _, hm, _ => by
    have e : i = d.2.1.length := by omega
    subst e
    rw [dCrash_l1F, dCrash_l1]
    rw [List.take_length] at hm ⊢
    rw [bif_false (ff (by omega))]
    exact hK m hm
  | j + 1, 0, i, _, _, hm, _, _ => absurd hm (by omega)
  | j + 1, n + 1, i, m, hi, hn, hm, hl => by
    have ih := fun m' => cr_loop1 F fail ex0 ch d s4 hs ho K hK j n (i + 1) m' (by omega) (by omega)
    rw [take_snoc _ i ((0 : Int), (z16, ())) (by omega)] at ih
    have hmem : d.2.1.getD i ((0 : Int), (z16, ())) ∈ d.2.1 := by rw [getD_lt (show i < d.2.1.length by omega)]; exact List.getElem_mem _
    have hq := okP_iff.1 ho _ hmem
    have hfl := firsts_len (d.2.1.take i) []
    have htl : (d.2.1.take i).length = i := by rw [List.length_take]; omega
    rw [dCrash_l1F, dCrash_l1]
    rw [Int.toNat_natCast, bif_true (tt (by omega)), bif_true (tt2 (by omega) (by omega))]
    generalize d.2.1.getD i ((0 : Int), (z16, ())) = p at ih hq ⊢
    have hv := vers_len d.1 (d.2.1.take i) p.1
    have hf := hm p.1
    rw [firsts_snoc] at ih
    rw [addI_eq (by omega) (by omega), nat1]
    cases hh : hasAt (d.2.1.take i) p.1 with
    | false =>
      rw [hh] at ih hf
      have hf : mfind (beqT (.int .i64)) p.1 m = none := hf
      have hv0 : versL d.1 (d.2.1.take i) p.1 = [d.1.getD p.1.toNat z16] := by
        unfold versL
        rw [List.filter_eq_nil_iff.2 (fun x hx => by
          have := List.any_eq_false.1 hh x hx
          simpa using this)]; rfl
      have hput := mfind_same p.1 [d.1.getD p.1.toNat z16] m
      have hl2 := mput_len p.1 [d.1.getD p.1.toNat z16] m
      rw [bif_true (c := Option.isNone (mfind (beqT (.int .i64)) p.1 m)) (by rw [hf]; rfl), bif_true (le_big (by rw [List.length_append]; simp only [List.length_cons, List.length_nil]; omega)), bif_true (tt2 hq.1 hq.2), bif_true (tt (by unfold big; omega)), hput, bif_true (c := Option.isSome _) rfl]
      simp only [Option.getD_some, List.singleton_append]
      rw [bif_true (le_big (by simp only [List.length_cons, List.length_nil]; omega)), bif_true (by
        rw [show beqT (.int .i64) p.1 p.1 = true from eqI_t rfl, Bool.true_and, tt (by simp only [List.length_cons, List.length_nil]; omega), Bool.true_and]
        exact tt (by unfold big; omega))]
      refine ih _ (mapIs_step p hm ?_ (fun a ha => ?_)) ?_
      · rw [mfind_same, hv0]; rfl
      · rw [mfind_other _ ha, mfind_other _ ha]
      · rw [mput_put]; have := mput_len p.1 [d.1.getD p.1.toNat z16, p.2.1] m; omega
    | true =>
      rw [hh] at ih hf
      have hf : mfind (beqT (.int .i64)) p.1 m = some (versL d.1 (d.2.1.take i) p.1) := hf
      have hl2 := mput_len p.1 (versL d.1 (d.2.1.take i) p.1 ++ [p.2.1]) m
      rw [bif_false (c := Option.isNone (mfind (beqT (.int .i64)) p.1 m)) (by rw [hf]; rfl), hf, bif_true (c := Option.isSome _) rfl]
      simp only [Option.getD_some]
      rw [bif_true (le_big (by rw [List.length_append]; simp only [List.length_cons, List.length_nil]; omega)), bif_true (by
        rw [show beqT (.int .i64) p.1 p.1 = true from eqI_t rfl, Bool.true_and, tt (by rw [List.length_append]; simp only [List.length_cons, List.length_nil]; omega), Bool.true_and]
        exact tt (by unfold big; omega))]
      rw [show (true || ([] : List Int).contains p.1) = true from rfl, if_pos rfl, List.append_nil] at ih
      exact ih _ (mapIs_step p hm (mfind_same _ _ _) (fun a ha => mfind_other _ ha _)) (by omega)
theorem dec_range (ch : List Int) (n : Nat) (h : 1 ≤ n) : 0 ≤ decD ch n ∧ decD ch n < n := by
  unfold decD
  cases ch with
  | nil => exact ⟨Int.le_refl _, by show (0 : Int) < _; omega⟩
  | cons c _ => exact ⟨Int.emod_nonneg _ (by omega), Int.emod_lt_of_pos _ (by omega)⟩
theorem fold_len (d : DK) : ∀ (l : List Int) (s : List Int × List Page), (l.foldl (crStep d) s).1.length ≤ s.1.length ∧ (l.foldl (crStep d) s).2.length = s.2.length
  | [], s => ⟨Nat.le_refl _, rfl⟩
  | a :: l, s => by
    obtain ⟨h1, h2⟩ := fold_len d l (crStep d s a)
    rw [List.foldl_cons]
    refine ⟨Nat.le_trans h1 ?_, h2.trans ?_⟩
    · show s.1.tail.length ≤ _; rw [List.length_tail]; omega
    · show (List.set s.2 _ _).length = _; rw [List.length_set]
theorem cr_loop2 {X : Type} (F : Nat) (fail : X) (ex : List Int → Int → Int → DK → List (Int × List Page) → (List Pend × Unit) → List Page → List Int → X) (d s4 : DK) (m : List (Int × List Page)) (out : List Pend × Unit) (pl : List Int) (hm : MapIs d.1 d.2.1 m) (hp : ∀ a, a ∈ pl → hasAt d.2.1 a = true) (ho : okP d.1.length d.2.1 = true) (hs : d.2.1.length ≤ 100000000) (hl : pl.length ≤ 100000000) : ∀ (j n i : Nat) (ch : List Int) (h3 : List Page), i + j = pl.length → j ≤ n → h3.length = d.1.length →
    dCrash_l2F F fail ex (n + 1) ch (pl.length : Nat) i s4 m out h3 pl = ex ((pl.drop i).foldl (crStep d) (ch, h3)).1 (pl.length : Nat) (pl.length : Nat) s4 m out ((pl.drop i).foldl (crStep d) (ch, h3)).2 pl
  | 0, n, i, ch, h3, hi, _, _ => by
    have e : i = pl.length := by omega
    subst e
    rw [dCrash_l2F, dCrash_l2]
    rw [bif_false (ff (by omega)), List.drop_length]; rfl
  | j + 1, 0, i, _, _, _, hm, _ => absurd hm (by omega)
  | j + 1, n + 1, i, ch, h3, hi, hn, h3l => by
    have ih := fun ch' h3' => cr_loop2 F fail ex d s4 m out pl hm hp ho hs hl j n (i + 1) ch' h3' (by omega) (by omega)
    have hmem : pl.getD i 0 ∈ pl := by rw [getD_lt (show i < pl.length by omega)]; exact List.getElem_mem _
    have hh := hp _ hmem
    have hq := has_ok ho hh
    rw [dCrash_l2F, dCrash_l2]
    rw [Int.toNat_natCast, bif_true (tt (by omega)), bif_true (tt2 (by omega) (by omega)), drop_cons (0 : Int) (show i < pl.length by omega), List.foldl_cons]
    generalize pl.getD i 0 = a at hh hq ⊢
    have hf := hm a
    rw [hh, if_pos rfl] at hf
    have hv := vers_len d.1 d.2.1 a
    have hd := dec_range ch (versL d.1 d.2.1 a).length hv.1
    rw [hf, Option.getD_some]
    unfold dDecide_r0 dDecide_r1 dDecide_P
    rw [Int.toNat_natCast, bif_true (tt (by omega)), bif_true (tt2 hd.1 hd.2), bif_true (tt2 hq.1 (by omega)), addI_eq (by omega) (by omega), nat1]
    exact ih _ _ (by rw [List.length_set]; exact h3l)
theorem cr_iff {d : DK} {ch : List Int} : (smallD d && decide (ch.length ≤ 1000000000)) = true ↔ (d.1.length ≤ 1000000 ∧ d.2.1.length ≤ 100000000) ∧ ch.length ≤ 1000000000 := by rw [Bool.and_eq_true, small_iff, decide_eq_true_eq]
theorem dCrash_plain (d : DK) (ch : List Int) (h : dCrash_P d ch = true) : ∃ F, ∀ {X : Type} (fail : X) (ret : DK → List Int → Int → X), dCrash F d ch fail ret = ret (dCrash_r0 d ch) (dCrash_r1 d ch) (dCrash_r2 d ch) := ⟨d.2.1.length + 1, fun fail ret => by
  have h := cr_iff.1 h
  unfold dCrash dCrash_r0 dCrash_r1 dCrash_r2 crashD dCheck_r
  rw [bif_true (c := dCheck_P d) (small_iff.2 (by omega))]
  cases hk : okD d with
  | false => rw [chk_bad hk]; rfl
  | true =>
    have ho := (okD_iff.1 hk).2
    have hfl := firsts_len d.2.1 []
    rw [chk_ok hk, bif_false (bne_f rfl), if_pos rfl]
    refine cr_loop1 (d.2.1.length + 1) fail _ ch d _ h.1.2 ho _ (fun m hm => ?_) d.2.1.length d.2.1.length 0 [] (by omega) (Nat.le_refl _) (fun a => by rw [List.take_zero]; rfl) (Nat.zero_le _)
    rw [bif_true (c := clPage_P d.1) (tt (by omega))]
    refine (cr_loop2 (d.2.1.length + 1) fail _ d _ m _ (firsts d.2.1 []) hm (fun a ha => firsts_mem _ _ a ha) ho h.1.2 (by omega) (firsts d.2.1 []).length d.2.1.length 0 ch d.1 (by omega) (by omega) rfl).trans ?_
    rw [List.drop_zero]
    have hc := (fold_len d (firsts d.2.1 []) (ch, d.1)).1
    rw [bif_true (c := clInt_P _) (tt (by have : ((ch, d.1) : List Int × List Page).1.length = ch.length := rfl; omega))]
    rfl⟩

/- The reference's crashes. -/
theorem rc_vers {d : DK} {i : Nat} {a : Int} (h : hasAt (d.2.1.take i) a = false) : [d.1.getD a.toNat z16] ++ ((d.2.1.drop i).filter fun p => p.1 == a).map (fun p => p.2.1) = versD d a := by
  unfold versD
  have e : d.2.1.filter (fun p => p.1 == a) = (d.2.1.drop i).filter fun p => p.1 == a := by
    conv => lhs; rw [← List.take_append_drop i d.2.1]
    rw [List.filter_append, List.filter_eq_nil_iff.2 (fun x hx => by
      have := List.any_eq_false.1 h x hx
      simpa using this), List.nil_append]
  rw [e]; rfl
/- Runs that are cut. -/
theorem sum_take : ∀ (l : List DOp) (n : Nat), sumO (l.take n) ≤ sumO l
  | [], n => by rw [List.take_nil]; exact Nat.le_refl _
  | x :: l, 0 => Nat.zero_le _
  | x :: l, n + 1 => by
    rw [List.take_succ_cons]
    show x.2.2.1.length + sumO (l.take n) ≤ x.2.2.1.length + sumO l
    have := sum_take l n; omega
theorem go_ok : ∀ (l : List DOp) (d : DK) (i : Int), okD d = true → (goD d l i).2.2 = 0 → okD (goD d l i).1 = true ∧ (goD d l i).1.1.length = d.1.length ∧ (goD d l i).1.2.1.length ≤ d.2.1.length + sumO l
  | [], d, i, h, _ => ⟨h, rfl, Nat.le_add_right _ _⟩
  | op :: l, d, i, h, he => by
    rw [go_cons] at he ⊢
    by_cases c : (stepD d op).2 = 0
    · rw [if_pos c] at he ⊢
      obtain ⟨q1, q2, q3⟩ := step_ok h op c
      obtain ⟨r1, r2, r3⟩ := go_ok l _ _ q1 he
      refine ⟨r1, r2.trans q2, ?_⟩
      show _ ≤ _ + (op.2.2.1.length + sumO l)
      omega
    · rw [if_neg c] at he; exact absurd he c
theorem go_bad : ∀ (l : List DOp) (d : DK) (i : Int), (goD d l i).2.2 ≠ 0 → (goD d l i).1 = dk0
  | [], d, i, h => absurd rfl h
  | op :: l, d, i, h => by
    rw [go_cons] at h ⊢
    by_cases c : (stepD d op).2 = 0
    · rw [if_pos c] at h ⊢; exact go_bad l _ _ h
    · rw [if_neg c]
theorem run_bad {d : DK} {l : List DOp} (h : (runD d l).2.2 ≠ 0) : (runD d l).1 = dk0 := by
  unfold runD at h ⊢
  cases hk : okD d with
  | false => rfl
  | true => rw [hk, if_pos rfl] at h; rw [if_pos rfl]; exact go_bad l d 0 h
theorem run_ok {d : DK} {l : List DOp} (h : (runD d l).2.2 = 0) : okD d = true ∧ okD (runD d l).1 = true ∧ (runD d l).1.1.length = d.1.length ∧ (runD d l).1.2.1.length ≤ d.2.1.length + sumO l := by
  unfold runD at h ⊢
  cases hk : okD d with
  | false => rw [hk] at h; cases h
  | true => rw [hk, if_pos rfl] at h; rw [if_pos rfl]; exact ⟨rfl, go_ok l d 0 hk h⟩
theorem run_small {d : DK} {l : List DOp} (h : runP d l = true) : smallD (runD d l).1 = true := by
  have h := run_iff.1 h
  by_cases c : (runD d l).2.2 = 0
  · have := run_ok c; exact small_iff.2 (by omega)
  · rw [run_bad c]; rfl
theorem runP_take {d : DK} {l : List DOp} (h : runP d l = true) (n : Nat) : runP d (l.take n) = true := by
  have h := run_iff.1 h
  have := sum_take l n
  have : (l.take n).length ≤ l.length := by rw [List.length_take]; omega
  exact run_iff.2 (by omega)
theorem int_iff {d : DK} {l : List DOp} {ch : List Int} : intP d l ch = true ↔ runP d l = true ∧ ch.length ≤ 1000000000 := by rw [intP, Bool.and_eq_true, decide_eq_true_eq]
theorem dInterrupt_plain (d : DK) (l : List DOp) (after : Int) (ch : List Int) (h : dInterrupt_P d l after ch = true) : ∃ F, ∀ {X : Type} (fail : X) (ret : DK → List Int → Int → X), dInterrupt F d l after ch fail ret = ret (dInterrupt_r0 d l after ch) (dInterrupt_r1 d l after ch) (dInterrupt_r2 d l after ch) := ⟨0, fun fail ret => by
  obtain ⟨h1, h2⟩ := int_iff.1 h
  have hr := run_iff.1 h1
  unfold dInterrupt dInterrupt_r0 dInterrupt_r1 dInterrupt_r2 intD dCheck_r dRun_r2 dRun_r0 dCrash_r0 dCrash_r1 dCrash_r2
  rw [bif_true (c := dCheck_P d) (small_iff.2 (by omega))]
  cases hk : okD d with
  | false => rw [chk_bad hk]; rfl
  | true =>
    rw [chk_ok hk, bif_false (bne_f rfl), if_pos rfl]
    by_cases c1 : after < 0
    · rw [bif_true (tt c1), if_neg (by omega)]; rfl
    by_cases c2 : after > (l.length : Int)
    · rw [bif_false (ff c1), bif_true (tt c2), if_neg (by omega)]; rfl
    rw [bif_false (ff c1), bif_false (ff c2), bif_true (tt2 (by omega) (by omega)), if_pos (by omega), bif_true (c := dRun_P d _) (runP_take h1 _)]
    by_cases c3 : (runD d (List.take after.toNat l)).2.2 = 0
    · rw [bif_false (bne_f c3), if_pos c3, bif_true (c := dCrash_P _ _) (by unfold dCrash_P; rw [run_small (runP_take h1 _), Bool.true_and]; exact tt h2)]
    · rw [bif_true (bne_t c3), if_neg c3]; rfl⟩
end Go.AI
