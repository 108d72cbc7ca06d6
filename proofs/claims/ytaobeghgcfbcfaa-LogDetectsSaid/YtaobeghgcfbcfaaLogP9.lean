/- What was appended is read back. -/
import Derived.Test.YtaobeghgcfbcfaaLogG4
import Derived.Test.YtaobeghgcfbcfaaLogT
namespace Go.AI
open Go

def LogReturns_P (_ : List Page) (_ : List Bys) : Bool := true
def LogReturns_r (_ : List Page) (_ : List Bys) : Bool := true
theorem beq_log' (a : LogT) : beqT (.pair (.int .i64) (.pair (.int .i64) (.pair (.int .i64) .unit))) a a = true := (beqT_iff (.pair (.int .i64) (.pair (.int .i64) (.pair (.int .i64) .unit))) rfl a a).2 rfl
theorem lfew_mem {l : List Bys} (h : lfew_r l = true) : l.length ≤ 20 ∧ ∀ x, x ∈ l → x.length ≤ 100 := by
  simp only [lfew_r, Bool.and_eq_true, decide_eq_true_eq] at h
  refine ⟨h.2, fun x hx => ?_⟩
  have h1 := h.1
  rw [List.take_of_length_le h.2] at h1
  exact of_decide_eq_true (List.all_eq_true.1 h1 x hx)
theorem noCom_rep (n : Nat) : noCom (List.replicate n z16) = true := List.all_eq_true.2 fun p hp => by rw [List.eq_of_mem_replicate hp]; decide
theorem pg16_rep (n : Nat) : pg16 (List.replicate n z16) = true := List.all_eq_true.2 fun p hp => by rw [List.eq_of_mem_replicate hp]; decide
theorem fresh_log (n : Nat) (h : 1 ≤ n) : LogOk n (headP :: List.replicate (n - 1) z16) [] (List.replicate (n - 1) z16) :=
  ⟨rfl, by rw [List.length_cons, List.length_replicate]; omega, (fun _ hx => nomatch hx), noCom_rep _, pg16_rep _⟩
theorem app_run {n : Nat} {s : List Page} {done : List Bys} {rest : List Page} (h : LogOk n s done rest) (h1 : 2 ≤ n) (h2 : n ≤ 8192) {b : Bys} (hb : b.length ≤ 65536) (he : appE (logOf done n) b = 0) :
    runP (still s) (appO (logOf done n) b) = true ∧ appO (logOf done n) b = appK (logOf done n) b ∧ appL (logOf done n) b = logOf (done ++ [b]) n ∧
    ∃ s' rest' i, runD (still s) (appO (logOf done n) b) = (still s', (i, 0)) ∧ LogOk n s' (done ++ [b]) rest' := by
  have hr : needN b.length + 1 ≤ rest.length := by
    rcases h.appE h1 h2 hb with ⟨_, c⟩ | ⟨c, _⟩
    · exact c
    · rw [he] at c; cases c
  have e : appO (logOf done n) b = appK (logOf done n) b := if_pos he
  have hs := app_sum (logOf done n) b hb
  have hl := h.len
  obtain ⟨i, e1, e2⟩ := run_app h h1 h2 hb hr
  refine ⟨run_iff.2 ⟨by show s.length ≤ _; omega, Nat.zero_le _, by rw [e]; omega, by rw [e]; omega⟩, e, ?_, _, _, i, by rw [e]; exact e1, e2⟩
  unfold appL
  rw [if_pos he, nextL_of]
theorem LogOk.opP {n : Nat} {s : List Page} {done : List Bys} {rest : List Page} (h : LogOk n s done rest) (h2 : n ≤ 8192) : lOpen_P (still s) = true := by
  have hl := h.len
  unfold lOpen_P dk16
  rw [show pg16 (still s).1 = true from h.pg_all, small_iff.2 ⟨by show s.length ≤ _; omega, Nat.zero_le _⟩]; rfl
theorem ret_loop {X : Type} (F : Nat) (fail : X) (ex0 ex1 : List Bys → Bool → Bool → Int → DK → LogT → List Bys → X) (K : DK → LogT → List Bys → X) (l : List Bys) (s4 : Bool) (hl : l.length ≤ 20) (hs : ∀ x, x ∈ l → x.length ≤ 100) (h1 : ∀ (i : Int) d x done, ex1 l s4 true i d x done = K d x done) : ∀ (j m i : Nat) (s : List Page) (done : List Bys) (rest : List Page), i + j = l.length → j ≤ m → done.length ≤ i → LogOk 100 s done rest →
    ∃ s' done' rest', LogOk 100 s' done' rest' ∧ done'.length ≤ l.length ∧ LogReturns_l1F F fail ex0 ex1 (m + 1) l s4 true i (still s) (logOf done 100) done = K (still s') (logOf done' 100) done'
  | 0, m, i, s, done, rest, hi, _, hd, h => by
    refine ⟨s, done, rest, h, by omega, ?_⟩
    rw [LogReturns_l1F, LogReturns_l1]
    rw [bif_false (ff (by omega)), h1]
  | j + 1, 0, i, _, _, _, _, hm, _, _ => absurd hm (by omega)
  | j + 1, m + 1, i, s, done, rest, hi, hm, hd, h => by
    have ih := fun s' done' rest' => ret_loop F fail ex0 ex1 K l s4 hl hs h1 j m (i + 1) s' done' rest' (by omega) (by omega)
    have hb := hs (l.getD i []) (by rw [getD_lt (show i < l.length by omega)]; exact List.getElem_mem _)
    have ei : (decide ((0 : Int) ≤ (i : Int)) && decide ((i : Int) < ((l.length : Nat) : Int))) = true := tt2 (by omega) (by omega)
    have hz := h.size
    rw [LogReturns_l1F, LogReturns_l1]
    rw [Int.toNat_natCast]
    generalize l.getD i [] = b at hb ⊢
    have hst : ∀ {A B x : X}, A = x → (∃ s' done' rest', LogOk 100 s' done' rest' ∧ done'.length ≤ l.length ∧ x = K (still s') (logOf done' 100) done') → ∃ s' done' rest', LogOk 100 s' done' rest' ∧ done'.length ≤ l.length ∧ A = K (still s') (logOf done' 100) done' := fun e h => by rw [e]; exact h
    rcases h.appE (by omega) (by omega) (b := b) (by omega) with ⟨he, hr⟩ | ⟨he, hr⟩
    · obtain ⟨a1, a2, a3, s', rest', q, a4, a5⟩ := app_run h (by omega) (by omega) (b := b) (by omega) he
      refine hst (B := fail) ?_ (ih s' (done ++ [b]) rest' (by rw [List.length_append, List.length_singleton]; omega) a5)
      have e0 : ran_r0 (still s) (lAppend_r1 (logOf done 100) b) (lAppend_r2 (logOf done 100) b) = still s' := by
        show (runD (still s) (appO (logOf done 100) b)).1 = _
        rw [a4]
      have e1 : ran_r1 (still s) (lAppend_r1 (logOf done 100) b) (lAppend_r2 (logOf done 100) b) = true := by
        refine tt ⟨he, ?_⟩
        show (runD (still s) (appO (logOf done 100) b)).2.2 = 0
        rw [a4]
      have e2 : lAppend_r0 (logOf done 100) b = logOf (done ++ [b]) 100 := a3
      refine bif_eq_t (tt (by omega)) (bif_eq_t rfl (bif_eq_t ei (bif_eq_t rfl (bif_eq_f (by show (appE _ b == 11) = false; rw [he]; rfl) (bif_eq_t a1 (bif_eq_t ei (bif_eq_t (le_big (by rw [List.length_append, List.length_singleton]; omega)) ?_)))))))
      rw [e0, e1, e2, addI_eq (by omega) (by omega), nat1]
    · refine hst (B := fail) ?_ (ih s done rest (by omega) h)
      have hp : lPages_r (b.length : Int) = ((needN b.length + 1 : Nat) : Int) := if_pos (by omega)
      have hnb : needN b.length ≤ 5000 := by unfold needN; omega
      refine bif_eq_t (tt (by omega)) (bif_eq_t rfl (bif_eq_t ei (bif_eq_t rfl (bif_eq_t (by show (appE _ b == 11) = true; rw [he]; rfl) (bif_eq_t ei (bif_eq_t rfl (bif_eq_f ?_ ?_)))))))
      · rw [hp]
        show decide (addI (1 + ((logPs done 1).length : Int)) ((needN b.length + 1 : Nat) : Int) ≤ 100) = false
        rw [addI_eq (by omega) (by omega)]
        exact ff (by omega)
      · rw [addI_eq (by omega) (by omega), nat1]
theorem LogReturns_plain (old : List Page) (l : List Bys) (_ : LogReturns_P old l = true) : ∃ F, ∀ {X : Type} (fail : X) (ret : Bool → X), LogReturns F old l fail ret = ret (LogReturns_r old l) := ⟨l.length + 1, fun fail ret => by
  unfold LogReturns
  rw [bif_true (c := lfew_P l) rfl]
  cases hw : lfew_r l with
  | false => rfl
  | true =>
    have h := lfew_mem hw
    rw [bif_false (c := !true) rfl]
    by_cases c : (old.length : Int) > 100
    · rw [bif_true (tt c)]; rfl
    have hbp : lBegin_P old = true := tt (by omega)
    rw [bif_false (ff c), hbp, cond_true]
    obtain ⟨s', done', rest', h1, h2, h3⟩ := ret_loop (l.length + 1) fail (fun _ s4 _ _ _ _ _ => ret s4) (fun _ _ ok1 _ d1 x1 done1 =>
      bif (lOpen_P d1) then
      bif (law49_awake_r) then
        bif ok1 then
          bif ((lOpen_r2 d1) == (0 : Int)) then
            bif (beqT (.pair (.int .i64) (.pair (.int .i64) (.pair (.int .i64) .unit))) (lOpen_r0 d1) x1) then
              bif (qSameB_P (lOpen_r1 d1) done1) then
              bif (qSameB_r (lOpen_r1 d1) done1) then
                ret ((lCheck_r x1) == (0 : Int))
              else
              ret false
              else fail
            else
            ret false
          else
          ret false
        else
        ret false
      else
      ret false
      else fail) _ l false h.1 h.2 (fun _ _ _ _ => rfl) l.length l.length 0 _ [] _ (by omega) (by omega) (by simp) (fresh_log 100 (by omega))
    refine h3.trans ?_
    obtain ⟨o1, o2, o3⟩ := h1.opens (by omega) (by omega)
    have e1 : (lOpen_r2 (still s') == 0) = true := beq_t o1
    have e2 : lOpen_r0 (still s') = logOf done' 100 := o2
    have e3 : lOpen_r1 (still s') = done' := o3
    have e4 : qSameB_P done' done' = true := tt (by omega)
    have e5 : qSameB_r done' done' = true := tt rfl
    have e6 : (lCheck_r (logOf done' 100) == 0) = true := beq_t (h1.chk (by omega) (by omega))
    rw [h1.opP (by omega), e1, e2, e3, beq_log', e4, e5, e6]; rfl⟩
end Go.AI
