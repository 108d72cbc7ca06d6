/- What the laws' own functions answer. -/
import Derived.Test.YtaobeghgcfbcfaaLogP6
namespace Go.AI
open Go

abbrev op0 : DOp := (0, (0, ([], ())))
theorem opsS_iff {a : List DOp} : opsS a = true ↔ a.length ≤ 1000000000000 ∧ ∀ x, x ∈ a → x.2.2.1.length ≤ 1000000000000 := by simp [opsS]
theorem ops_loop {X : Type} (F : Nat) (fail : X) (ex0 ex1 : List DOp → List DOp → Bool → Int → X) (kt kf : X) (a b : List DOp) (hl : a.length = b.length) (ha : opsS a = true) (hb : opsS b = true) (h0 : ∀ i : Nat, ex0 a b false i = kf) (h1 : ∀ s (i : Nat), ex1 a b s i = kt) : ∀ (j m i : Nat) (s4 : Bool), i + j = a.length → j ≤ m →
    rSameOps_l1F F fail ex0 ex1 (m + 1) a b s4 i = if a.drop i = b.drop i then kt else kf
  | 0, m, i, s4, hi, _ => by
    rw [rSameOps_l1F, rSameOps_l1]
    rw [bif_false (ff (by omega)), h1, List.drop_eq_nil_of_le (by omega), List.drop_eq_nil_of_le (by omega), if_pos rfl]
  | j + 1, 0, i, _, _, hm => absurd hm (by omega)
  | j + 1, m + 1, i, s4, hi, hm => by
    have ih := ops_loop F fail ex0 ex1 kt kf a b hl ha hb h0 h1 j m (i + 1) s4 (by omega) (by omega)
    have ha' := opsS_iff.1 ha
    have hb' := opsS_iff.1 hb
    have hp : rSamePages_P (a.getD i op0).2.2.1 (b.getD i op0).2.2.1 = true := tt ⟨ha'.2 _ (by rw [getD_lt (show i < a.length by omega)]; exact List.getElem_mem _), hb'.2 _ (by rw [getD_lt (show i < b.length by omega)]; exact List.getElem_mem _)⟩
    have ea : (decide ((0 : Int) ≤ (i : Int)) && decide ((i : Int) < ((a.length : Nat) : Int))) = true := tt2 (by omega) (by omega)
    have eb : (decide ((0 : Int) ≤ (i : Int)) && decide ((i : Int) < ((b.length : Nat) : Int))) = true := tt2 (by omega) (by omega)
    have ext : ∀ x y : DOp, x.1 = y.1 → x.2.1 = y.2.1 → x.2.2.1 = y.2.2.1 → x = y := fun x y h1 h2 h3 => Prod.ext h1 (Prod.ext h2 (Prod.ext h3 rfl))
    rw [rSameOps_l1F, rSameOps_l1]
    rw [Int.toNat_natCast, drop_cons op0 (show i < a.length by omega), drop_cons op0 (show i < b.length by omega)]
    refine bif_eq_t (tt (by omega)) (bif_eq_t ea (bif_eq_t eb ?_))
    by_cases c1 : (a.getD i op0).1 = (b.getD i op0).1
    case neg => exact bif_eq_t (bne_t c1) (by rw [h0, if_neg (fun e => c1 (by rw [(List.cons.inj e).1]))])
    refine bif_eq_f (bne_f c1) (bif_eq_t ea (bif_eq_t eb ?_))
    by_cases c2 : (a.getD i op0).2.1 = (b.getD i op0).2.1
    case neg => exact bif_eq_t (bne_t c2) (by rw [h0, if_neg (fun e => c2 (by rw [(List.cons.inj e).1]))])
    refine bif_eq_f (bne_f c2) (bif_eq_t ea (bif_eq_t eb (bif_eq_t hp ?_)))
    by_cases c3 : (a.getD i op0).2.2.1 = (b.getD i op0).2.2.1
    case neg => exact bif_eq_t (by rw [show rSamePages_r (a.getD i op0).2.2.1 (b.getD i op0).2.2.1 = false from ff c3]; rfl) (by rw [h0, if_neg (fun e => c3 (by rw [(List.cons.inj e).1]))])
    refine bif_eq_f (by rw [show rSamePages_r (a.getD i op0).2.2.1 (b.getD i op0).2.2.1 = true from tt c3]; rfl) ?_
    rw [addI_eq (by omega) (by omega), nat1, ih, ext _ _ c1 c2 c3]
    simp only [List.cons.injEq, true_and]
theorem rSameOps_plain (a b : List DOp) (h : rSameOps_P a b = true) : ∃ F, ∀ {X : Type} (fail : X) (ret : Bool → X), rSameOps F a b fail ret = ret (rSameOps_r a b) := ⟨a.length + 1, fun fail ret => by
  unfold rSameOps_P at h
  rw [Bool.and_eq_true] at h
  have ha := opsS_iff.1 h.1
  have hb := opsS_iff.1 h.2
  unfold rSameOps rSameOps_r
  by_cases hl : a.length = b.length
  · rw [bif_false (bne_f (by omega))]
    refine (ops_loop (a.length + 1) fail _ _ (ret true) (ret false) a b hl h.1 h.2 (fun _ => rfl) (fun _ _ => rfl) a.length a.length 0 false (by omega) (by omega)).trans ?_
    rw [List.drop_zero, List.drop_zero]
    by_cases c : a = b
    · rw [if_pos c, tt c]
    · rw [if_neg c, ff c]
  · rw [bif_true (bne_t (by omega)), ff (fun e => hl (by rw [e]))]⟩
theorem bys_loop {X : Type} (F : Nat) (fail : X) (ex0 ex1 : List Bys → List Bys → Bool → Int → X) (kt kf : X) (a b : List Bys) (hl : a.length = b.length) (ha : a.length ≤ 1000000000000) (h0 : ∀ i : Nat, ex0 a b false i = kf) (h1 : ∀ s (i : Nat), ex1 a b s i = kt) : ∀ (j m i : Nat) (s4 : Bool), i + j = a.length → j ≤ m →
    qSameB_l1F F fail ex0 ex1 (m + 1) a b s4 i = if a.drop i = b.drop i then kt else kf
  | 0, m, i, s4, hi, _ => by
    rw [qSameB_l1F, qSameB_l1]
    rw [bif_false (ff (by omega)), h1, List.drop_eq_nil_of_le (by omega), List.drop_eq_nil_of_le (by omega), if_pos rfl]
  | j + 1, 0, i, _, _, hm => absurd hm (by omega)
  | j + 1, m + 1, i, s4, hi, hm => by
    have ih := bys_loop F fail ex0 ex1 kt kf a b hl ha h0 h1 j m (i + 1) s4 (by omega) (by omega)
    rw [qSameB_l1F, qSameB_l1]
    rw [bif_true (tt (by omega)), bif_true (tt2 (by omega) (by omega)), bif_true (tt2 (by omega) (by omega)), Int.toNat_natCast, drop_cons ([] : Bys) (show i < a.length by omega), drop_cons ([] : Bys) (show i < b.length by omega)]
    by_cases c : a.getD i [] = b.getD i []
    · refine bif_eq_f (by rw [show ((a.getD i []) == (b.getD i [])) = true from beq_iff_eq.2 c]; rfl) ?_
      rw [addI_eq (by omega) (by omega), c, nat1, ih]
      simp only [List.cons.injEq, true_and]
    · refine bif_eq_t (by rw [show ((a.getD i []) == (b.getD i [])) = false from beq_eq_false_iff_ne.2 c]; rfl) ?_
      rw [h0, if_neg (fun e => c (List.cons.inj e).1)]
theorem qSameB_plain (a b : List Bys) (h : qSameB_P a b = true) : ∃ F, ∀ {X : Type} (fail : X) (ret : Bool → X), qSameB F a b fail ret = ret (qSameB_r a b) := ⟨a.length + 1, fun fail ret => by
  simp only [qSameB_P, decide_eq_true_eq] at h
  unfold qSameB qSameB_r
  by_cases hl : a.length = b.length
  · rw [bif_false (bne_f (by omega))]
    refine (bys_loop (a.length + 1) fail _ _ (ret true) (ret false) a b hl h.1 (fun _ => rfl) (fun _ _ => rfl) a.length a.length 0 false (by omega) (by omega)).trans ?_
    rw [List.drop_zero, List.drop_zero]
    by_cases c : a = b
    · rw [if_pos c, tt c]
    · rw [if_neg c, ff c]
  · rw [bif_true (bne_t (by omega)), ff (fun e => hl (by rw [e]))]⟩
theorem ran_plain (d : DK) (l : List DOp) (e : Int) (h : ran_P d l e = true) : ∃ F, ∀ {X : Type} (fail : X) (ret : DK → Bool → X), ran F d l e fail ret = ret (ran_r0 d l e) (ran_r1 d l e) := ⟨0, fun fail ret => by
  unfold ran ran_r0 ran_r1
  rw [bif_true (c := dRun_P d l) h]
  by_cases c1 : e = 0
  · refine bif_eq_t (beq_t c1) ?_
    congr 1
    show ((runD d l).2.2 == 0) = _
    by_cases c2 : (runD d l).2.2 = 0
    · rw [beq_t c2, tt ⟨c1, c2⟩]
    · rw [beq_f c2, ff (fun h => c2 h.2)]
  · exact bif_eq_f (beq_f c1) (by rw [ff (fun h => c1 h.1)]; rfl)⟩
theorem lfew_loop {X : Type} (F : Nat) (fail : X) (ex0 ex1 : List Bys → Bool → Int → X) (kt kf : X) (l : List Bys) (h0 : ∀ i : Nat, ex0 l false i = kf) (h1 : ∀ s (i : Nat), ex1 l s i = kt) : ∀ (j m i : Nat) (s2 : Bool), i + j = 20 → j ≤ m →
    lfew_l1F F fail ex0 ex1 (m + 1) l s2 i = if ((l.drop i).take (20 - i)).all (fun x => decide (x.length ≤ 100)) then kt else kf
  | 0, m, i, s2, hi, _ => by
    have e : i = 20 := by omega
    subst e
    rw [lfew_l1F, lfew_l1]
    rw [Nat.sub_self, List.take_zero]
    by_cases c : ((20 : Nat) : Int) < (l.length : Int)
    · rw [bif_true (tt c), bif_false (ff (by omega)), h1]; rfl
    · rw [bif_false (ff c), h1]; rfl
  | j + 1, 0, i, _, _, hm => absurd hm (by omega)
  | j + 1, m + 1, i, s2, hi, hm => by
    have ih := lfew_loop F fail ex0 ex1 kt kf l h0 h1 j m (i + 1) s2 (by omega) (by omega)
    rw [lfew_l1F, lfew_l1]
    by_cases c : (i : Int) < (l.length : Int)
    · have e1 : 20 - i = (20 - (i + 1)) + 1 := by omega
      rw [bif_true (tt c), bif_true (tt (by omega)), bif_true (tt2 (by omega) (by omega)), Int.toNat_natCast, drop_cons ([] : Bys) (show i < l.length by omega), e1, List.take_succ_cons, List.all_cons]
      by_cases c2 : ((l.getD i ([] : Bys)).length : Int) > 100
      · rw [bif_true (tt c2), h0, ff (by omega)]; rfl
      · rw [bif_false (ff c2), addI_eq (by omega) (by omega), nat1, ih, tt (show (l.getD i ([] : Bys)).length ≤ 100 by omega), Bool.true_and]
    · rw [bif_false (ff c), h1, List.drop_eq_nil_of_le (by omega), List.take_nil]; rfl
theorem lfew_plain (l : List Bys) (_ : lfew_P l = true) : ∃ F, ∀ {X : Type} (fail : X) (ret : Bool → X), lfew F l fail ret = ret (lfew_r l) := ⟨21, fun fail ret => by
  unfold lfew lfew_r
  refine (lfew_loop 21 fail _ _ (ret (decide ((l.length : Int) ≤ 20))) (ret false) l (fun _ => rfl) (fun _ _ => rfl) 20 20 0 false rfl (Nat.le_refl _)).trans ?_
  rw [List.drop_zero, Nat.sub_zero]
  have e : decide ((l.length : Int) ≤ 20) = decide (l.length ≤ 20) := by
    by_cases c : l.length ≤ 20
    · rw [tt c, tt (by omega)]
    · rw [ff c, ff (by omega)]
  rw [e]
  cases (List.take 20 l).all fun x => decide (x.length ≤ 100) <;> rfl⟩

/- What is written is there. -/
theorem putS_wr : ∀ (ps s : List Page) (a : Nat), a + ps.length ≤ s.length → putS s (wrS a ps) = s.take a ++ ps ++ s.drop (a + ps.length)
  | [], s, a, _ => by simp [wrS, putS]
  | p :: ps, s, a, h => by
    rw [List.length_cons] at h
    have e : putS s (wrS a (p :: ps)) = putS (s.set a p) (wrS ((a + 1 : Nat) : Int) ps) := by
      show putS (s.set (a : Int).toNat p) (wrS ((a : Int) + 1) ps) = _
      rw [Int.toNat_natCast, nat1]
    rw [e, putS_wr ps _ (a + 1) (by rw [List.length_set]; omega), List.drop_set_of_lt (by omega), List.length_cons, show a + 1 + ps.length = a + (ps.length + 1) by omega]
    have e2 : (s.set a p).take (a + 1) = s.take a ++ [p] := by
      rw [take_snoc _ a z16 (by rw [List.length_set]; omega), List.take_set_of_le (Nat.le_refl _)]
      congr 1
      simp [List.getD, show a < s.length by omega]
    rw [e2]; simp
theorem okP_wr : ∀ (ps : List Page) (a n : Nat), a + ps.length ≤ n → okP n (wrS a ps) = true
  | [], _, _, _ => rfl
  | p :: ps, a, n, h => by
    rw [List.length_cons] at h
    show (decide (0 ≤ (a : Int) ∧ (a : Int) < (n : Int)) && okP n (wrS ((a : Int) + 1) ps)) = true
    rw [tt (by omega), nat1, okP_wr ps (a + 1) n (by omega)]; rfl
/-- A disk without pending pages. -/
def still (s : List Page) : DK := (s, ([], ()))
theorem still_ok {s : List Page} (h1 : 1 ≤ s.length) (h2 : s.length ≤ 8192) : okD (still s) = true := okD_iff.2 ⟨⟨h1, h2⟩, rfl⟩
/-- A write and a sync, ahead of other operations. -/
theorem go_wr {s : List Page} {a : Nat} {ps : List Page} (h : a + ps.length ≤ s.length) (l : List DOp) (i : Int) :
    goD (still s) (wrO a ps :: syO :: l) i = goD (still (s.take a ++ ps ++ s.drop (a + ps.length))) l (i + 1 + 1) := by
  have hf : fitD (still s) (a : Int) (ps.length : Int) = true := tt (by show (0 : Int) ≤ a ∧ (0 : Int) ≤ (ps.length : Int) ∧ (a : Int) + (ps.length : Int) ≤ (s.length : Int); omega)
  have e1 : stepD (still s) (wrO a ps) = ((s, (wrS a ps, ())), 0) := by
    show (if (0 : Int) = 0 then (if fitD (still s) (a : Int) (ps.length : Int) then _ else _) else _) = _
    rw [if_pos rfl, hf]; rfl
  have e2 : stepD ((s, (wrS a ps, ())) : DK) syO = (still (putS s (wrS a ps)), 0) := rfl
  rw [goD, e1, if_pos rfl, goD, e2, if_pos rfl, putS_wr ps s a h]
theorem run_still {s : List Page} (h1 : 1 ≤ s.length) (h2 : s.length ≤ 8192) (l : List DOp) : runD (still s) l = goD (still s) l 0 := if_pos (still_ok h1 h2)
theorem fmt_run {s : List Page} {n : Nat} (hs : s.length = n) (h1 : 2 ≤ n) (h2 : n ≤ 8192) : runD (still s) (fmtO n) = (still (headP :: List.replicate (n - 1) z16), (4, 0)) := by
  rw [run_still (by omega) (by omega), show fmtO n = [wrO 0 (List.replicate (n : Int).toNat z16), syO, wrO 0 [headP], syO] from if_pos (by omega), Int.toNat_natCast]
  have e1 := go_wr (s := s) (a := 0) (ps := List.replicate n z16) (by rw [List.length_replicate]; omega) [wrO 0 [headP], syO] 0
  rw [show wrO ((0 : Nat) : Int) (List.replicate n z16) = wrO 0 (List.replicate n z16) from rfl] at e1
  rw [e1, List.length_replicate, List.take_zero, List.nil_append, List.drop_eq_nil_of_le (by omega), List.append_nil]
  have e2 := go_wr (s := List.replicate n z16) (a := 0) (ps := [headP]) (by rw [List.length_replicate]; show 0 + 1 ≤ n; omega) [] (0 + 1 + 1)
  rw [show wrO ((0 : Nat) : Int) [headP] = wrO 0 [headP] from rfl] at e2
  rw [e2, List.take_zero, List.nil_append, show (0 : Nat) + [headP].length = 1 from rfl, List.drop_replicate]; rfl
theorem lBegin_plain (old : List Page) (h : lBegin_P old = true) : ∃ F, ∀ {X : Type} (fail : X) (ret : DK → LogT → Bool → X), lBegin F old fail ret = ret (lBegin_r0 old) (lBegin_r1 old) (lBegin_r2 old) := ⟨0, fun fail ret => by
  simp only [lBegin_P, decide_eq_true_eq] at h
  unfold lBegin
  have hl : ((List.replicate 100 z16).take 0 ++ old.take (min old.length (List.replicate 100 z16).length) ++ (List.replicate 100 z16).drop (0 + min old.length (List.replicate 100 z16).length)).length = 100 := by
    simp only [List.length_append, List.length_take, List.length_drop, List.length_replicate]; omega
  generalize (List.replicate 100 z16).take 0 ++ old.take (min old.length (List.replicate 100 z16).length) ++ (List.replicate 100 z16).drop (0 + min old.length (List.replicate 100 z16).length) = s at hl ⊢
  have hr := fmt_run (s := s) (n := 100) hl (by omega) (by omega)
  have hfl : fmtO 100 = [wrO 0 (List.replicate 100 z16), syO, wrO 0 [headP], syO] := rfl
  have hP : ran_P (s, ([], ())) (lFormat_r1 100) (lFormat_r2 100) = true := run_iff.2 ⟨by show s.length ≤ _; omega, Nat.zero_le _, by show (fmtO 100).length ≤ _; rw [hfl]; decide, by show sumO (fmtO 100) ≤ _; rw [hfl]; decide⟩
  refine bif_eq_t (by decide) (bif_eq_t rfl (bif_eq_t hP ?_))
  have e0 : ran_r0 (s, ([], ())) (lFormat_r1 100) (lFormat_r2 100) = begD := by
    show (runD (still s) (fmtO ((100 : Nat) : Int))).1 = _
    rw [hr]; rfl
  have e1 : ran_r1 (s, ([], ())) (lFormat_r1 100) (lFormat_r2 100) = true := by
    refine tt ⟨rfl, ?_⟩
    show (runD (still s) (fmtO ((100 : Nat) : Int))).2.2 = 0
    rw [hr]
  rw [e0, e1]; rfl⟩
end Go.AI
