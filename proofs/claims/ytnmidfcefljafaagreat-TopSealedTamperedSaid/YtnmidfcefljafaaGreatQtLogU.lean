/- Texts of the proof, joined: LogU. -/
import Derived.Test.YtnmidfcefljafaaGreatQtLogT
namespace Go.AI
open Go
theorem noCom_rep (n : Nat) : noCom (List.replicate n z16) = true := List.all_eq_true.2 fun p hp => by rw [List.eq_of_mem_replicate hp]; decide
theorem pg16_rep (n : Nat) : pg16 (List.replicate n z16) = true := List.all_eq_true.2 fun p hp => by rw [List.eq_of_mem_replicate hp]; decide
theorem fresh_log (n : Nat) (h : 1 ≤ n) : LogOk n (headP :: List.replicate (n - 1) z16) [] (List.replicate (n - 1) z16) :=
 ⟨rfl, by rw [List.length_cons, List.length_replicate]; omega, (fun _ hx => nomatch hx), noCom_rep _, pg16_rep _⟩
theorem app_run {n : Nat} {s : List Page} {done : List Bys} {rest : List Page} (h : LogOk n s done rest) (h1 : 2 ≤ n) (h2 : n ≤ 8192) {b : Bys} (hb : b.length ≤ 65536) (he : appE (logOf done n) b = 0) :
  runP (still s) (appO (logOf done n) b) = true ∧ appO (logOf done n) b = appK (logOf done n) b ∧ appL (logOf done n) b = logOf (done ++ [b]) n ∧
  ∃ s' rest' i, runD (still s) (appO (logOf done n) b) = (still s', (i, 0)) ∧ LogOk n s' (done ++ [b]) rest' := by
 have hr : needN b.length + 1 ≤ rest.length := by
  rcases h.appE h1 h2 hb with ⟨_, c⟩ | ⟨c, _⟩
  ·exact c
  ·rw [he] at c; cases c
 have e : appO (logOf done n) b = appK (logOf done n) b := if_pos he
 have hs := app_sum (logOf done n) b hb
 have hl := h.len
 obtain ⟨i, e1, e2⟩ := run_app h h1 h2 hb hr
 refine ⟨run_iff.2 ⟨by show s.length ≤ _; omega, Nat.zero_le _, by rw [e]; omega, by rw [e]; omega⟩, e, ?_, _, _, i, by rw [e]; exact e1, e2⟩
 unfold appL
 rw [if_pos he, nextL_of]
theorem getD_set' {α : Type} (l : List α) (i j : Nat) (v z : α) (h : j < l.length) : (l.set i v).getD j z = if i = j then v else l.getD j z := by
 rw [getD_lt (by rw [List.length_set]; exact h), getD_lt h, List.getElem_set]
theorem fold_mem (d : DK) (n a : Nat) (ha : a < n) : ∀ (pl : List Int) (s : List Int × List Page), (∀ p, p ∈ pl → 0 ≤ p) → s.2.length = n → s.2.getD a z16 ∈ versD d a → (pl.foldl (crStep d) s).2.getD a z16 ∈ versD d a
 | [], _, _, _, h => h
 | p :: pl, s, hp, hs, h => by
  rw [List.foldl_cons]
  refine fold_mem d n a ha pl _ (fun q hq => hp q (List.mem_cons_of_mem _ hq)) (by show (List.set _ _ _).length = _; rw [List.length_set]; exact hs) ?_
  show (List.set _ _ _).getD a z16 ∈ _
  have h0 := hp p (List.mem_cons_self ..)
  rw [getD_set' _ _ _ _ _ (by omega)]
  by_cases c : p.toNat = a
  ·have e : p = (a : Int) := by omega
   have hl := vers_len d.1 d.2.1 (a : Int)
   have hd := dec_range s.1 (versD d a).length (by rw [versD_eq]; exact hl.1)
   rw [if_pos c, e, getD_lt (by omega)]
   exact List.getElem_mem _
  ·rw [if_neg c]; exact h
theorem wr_vers (s : List Page) : ∀ (ps : List Page) (a i : Nat) (p : Page), p ∈ ((wrS a ps).filter fun q => q.1 == (i : Int)).map (fun q => q.2.1) → a ≤ i ∧ i < a + ps.length ∧ p = ps.getD (i - a) z16
 | [], _, _, _, h => by cases h
 | q :: ps, a, i, p, h => by
  have e : wrS (a : Int) (q :: ps) = ((a : Int), (q, ())) :: wrS ((a + 1 : Nat) : Int) ps := by rw [wrS, nat1]
  rw [e] at h
  by_cases c : a = i
  ·subst c
   rw [List.filter_cons_of_pos (by simp)] at h
   rcases List.mem_cons.1 h with rfl | h
   ·exact ⟨Nat.le_refl _, by rw [List.length_cons]; omega, by rw [Nat.sub_self]; rfl⟩
   ·have := wr_vers s ps (a + 1) a p h
    omega
  ·rw [List.filter_cons_of_neg (by simp; omega)] at h
   obtain ⟨h1, h2, h3⟩ := wr_vers s ps (a + 1) i p h
   refine ⟨by omega, by rw [List.length_cons]; omega, ?_⟩
   rw [h3, show i - a = (i - (a + 1)) + 1 by omega]; rfl
theorem crash_wr {s : List Page} {a : Nat} {ps : List Page} (h : a + ps.length ≤ s.length) (h1 : 1 ≤ s.length) (h2 : s.length ≤ 8192) (ch : List Int) :
  ∃ s' ch', crashD (s, (wrS a ps, ())) ch = (still s', (ch', 0)) ∧ ch'.length ≤ ch.length ∧ s'.length = s.length ∧ ∀ i, i < s.length → s'.getD i z16 = s.getD i z16 ∨ (a ≤ i ∧ i < a + ps.length ∧ s'.getD i z16 = ps.getD (i - a) z16) := by
 have hok : okD (s, (wrS a ps, ())) = true := okD_iff.2 ⟨⟨h1, h2⟩, okP_wr ps a _ h⟩
 have hf := fold_len (s, (wrS a ps, ())) (firsts (wrS a ps) []) (ch, s)
 refine ⟨(crGo (s, (wrS a ps, ())) ch).2, (crGo (s, (wrS a ps, ())) ch).1, ?_, hf.1, hf.2, fun i hi => ?_⟩
 ·unfold crashD; rw [if_pos hok]; rfl
 ·have hm : (crGo (s, (wrS a ps, ())) ch).2.getD i z16 ∈ versD (s, (wrS a ps, ())) i :=
   fold_mem (s, (wrS a ps, ())) s.length i hi _ (ch, s) (fun p hp => (has_ok (okD_iff.1 hok).2 (firsts_mem _ [] p hp)).1) rfl (by
    show s.getD i z16 ∈ _ :: _
    rw [Int.toNat_natCast]; exact List.mem_cons_self)
  rcases List.mem_cons.1 hm with hm | hm
  ·rw [Int.toNat_natCast] at hm; exact .inl hm
  ·exact .inr (wr_vers s ps a i _ hm)
theorem crash_still {s : List Page} (h1 : 1 ≤ s.length) (h2 : s.length ≤ 8192) (ch : List Int) : crashD (still s) ch = (still s, (ch, 0)) := by
 unfold crashD
 rw [if_pos (still_ok h1 h2)]; rfl
theorem int_of {d d' : DK} {l : List DOp} {k : Nat} {i : Int} {ch : List Int} (hd : okD d = true) (hk : k ≤ l.length) (hr : runD d (l.take k) = (d', (i, 0))) : intD d l (k : Int) ch = crashD d' ch := by
 unfold intD
 rw [if_pos hd, if_pos (by omega), Int.toNat_natCast, hr, if_pos rfl]
theorem keep_log {n : Nat} {s s' : List Page} {done : List Bys} {rest ps : List Page} (h : LogOk n s done rest) (hl : s'.length = s.length) (hps : ∀ p, p ∈ ps → isDat p = true ∧ p.length = 16)
  (hs : ∀ i, i < s.length → s'.getD i z16 = s.getD i z16 ∨ (1 + (logPs done 1).length ≤ i ∧ i < 1 + (logPs done 1).length + ps.length ∧ s'.getD i z16 = ps.getD (i - (1 + (logPs done 1).length)) z16)) :
  ∃ rest', LogOk n s' done rest' := by
 have hz := h.size
 have hlen := h.len
 refine ⟨s'.drop (1 + (logPs done 1).length), ?_, by omega, h.short, ?_, ?_⟩
 ·have e : s'.take (1 + (logPs done 1).length) = headP :: logPs done 1 := by
   apply List.ext_getElem
   ·rw [List.length_take, List.length_cons]; omega
   intro i hi1 hi2
   rw [List.length_cons] at hi2
   have hi3 : i < s.length := by omega
   rcases hs i hi3 with e | ⟨e, _, _⟩
   ·rw [List.getElem_take, ← getD_lt (d := z16) (show i < s'.length by omega), e, h.eq]
    have : diskPs done rest = (headP :: logPs done 1) ++ rest := rfl
    rw [this, List.getD, List.getElem?_append_left (by rw [List.length_cons]; omega), List.getElem?_eq_getElem (by rw [List.length_cons]; omega)]; rfl
   ·omega
  have := List.take_append_drop (1 + (logPs done 1).length) s'
  rw [e] at this
  exact this.symm
 all_goals
  refine List.all_eq_true.2 fun p hp => ?_
  obtain ⟨j, hj, rfl⟩ := List.getElem_of_mem hp
  rw [List.length_drop] at hj
  rw [List.getElem_drop, ← getD_lt (d := z16) (show 1 + (logPs done 1).length + j < s'.length by omega)]
  have hrj : j < rest.length := by omega
  have hsr : s.getD (1 + (logPs done 1).length + j) z16 = rest[j] := by
   have : diskPs done rest = (headP :: logPs done 1) ++ rest := rfl
   rw [h.eq, this, List.getD, List.getElem?_append_right (by rw [List.length_cons]; omega), List.length_cons, show 1 + (logPs done 1).length + j - ((logPs done 1).length + 1) = j by omega, List.getElem?_eq_getElem hrj]; rfl
  rcases hs (1 + (logPs done 1).length + j) (by omega) with e | ⟨_, e2, e⟩
  ·rw [e, hsr]
   first | exact List.all_eq_true.1 h.quiet _ (List.getElem_mem _) | exact List.all_eq_true.1 h.pg _ (List.getElem_mem _)
  ·have hj2 : j < ps.length := by omega
   rw [e, show 1 + (logPs done 1).length + j - (1 + (logPs done 1).length) = j by omega, getD_lt hj2]
   obtain ⟨g1, g2⟩ := hps _ (List.getElem_mem hj2)
   first | exact tt g2 | exact tt (by have := isDat_iff.1 g1; omega)
theorem one_log {n : Nat} {s s' : List Page} {done : List Bys} {rest : List Page} {b : Bys} (h : LogOk n s done rest) (hb : b.length ≤ 65536) (hr : needN b.length + 1 ≤ rest.length) (hd : rest.take (needN b.length) = dataPs b) (hl : s'.length = s.length)
  (hs : ∀ i, i < s.length → s'.getD i z16 = s.getD i z16 ∨ (1 + (logPs done 1).length + needN b.length ≤ i ∧ i < 1 + (logPs done 1).length + needN b.length + 1 ∧ s'.getD i z16 = ([comP b (done.length + 1)] : List Page).getD (i - (1 + (logPs done 1).length + needN b.length)) z16)) :
  LogOk n s' done rest ∨ LogOk n s' (done ++ [b]) (rest.drop (needN b.length + 1)) := by
 have hz := h.size
 have hlen := h.len
 by_cases c : s'.getD (1 + (logPs done 1).length + needN b.length) z16 = s.getD (1 + (logPs done 1).length + needN b.length) z16
 ·left
  have e : s' = s := by
   apply List.ext_getElem hl
   intro i hi1 hi2
   rw [← getD_lt (d := z16) hi1, ← getD_lt (d := z16) hi2]
   rcases hs i hi2 with e | ⟨e1, e2, _⟩
   ·exact e
   ·obtain rfl : i = 1 + (logPs done 1).length + needN b.length := by omega
    exact c
  rw [e]; exact h
 ·right
  have hc : s'.getD (1 + (logPs done 1).length + needN b.length) z16 = comP b (done.length + 1) := by
   rcases hs (1 + (logPs done 1).length + needN b.length) (by omega) with e | ⟨_, _, e⟩
   ·exact absurd e c
   ·rw [e, Nat.sub_self]; rfl
  have e : s' = s.set (1 + (logPs done 1).length + needN b.length) (comP b (done.length + 1)) := by
   apply List.ext_getElem (by rw [List.length_set]; exact hl)
   intro i hi1 hi2
   rw [List.length_set] at hi2
   rw [← getD_lt (d := z16) hi1, List.getElem_set]
   by_cases ci : 1 + (logPs done 1).length + needN b.length = i
   ·subst ci; rw [if_pos rfl, hc]
   ·rw [if_neg ci, ← getD_lt (d := z16) hi2]
    rcases hs i hi2 with e | ⟨e1, e2, _⟩
    ·exact e
    ·omega
  have e2 : s' = diskPs (done ++ [b]) (rest.drop (needN b.length + 1)) := by
   have hh : diskPs done rest = (headP :: logPs done 1) ++ rest := rfl
   rw [e, h.eq, diskPs_snoc, hh, List.set_append_right _ _ (by rw [List.length_cons]; omega), List.length_cons, show 1 + (logPs done 1).length + needN b.length - ((logPs done 1).length + 1) = needN b.length by omega]
   have hrest : rest.set (needN b.length) (comP b (done.length + 1)) = blk b (done.length + 1) ++ rest.drop (needN b.length + 1) := by
    unfold blk
    rw [← hd, List.append_assoc]
    have h3 := List.take_append_drop (needN b.length) rest
    have h4 : rest.drop (needN b.length) = rest.getD (needN b.length) z16 :: rest.drop (needN b.length + 1) := drop_cons z16 (by omega)
    have h5 : rest = rest.take (needN b.length) ++ rest.getD (needN b.length) z16 :: rest.drop (needN b.length + 1) := by rw [← h4, h3]
    have hlt : (rest.take (needN b.length)).length = needN b.length := by rw [List.length_take]; omega
    have h6 : (rest.take (needN b.length) ++ rest.getD (needN b.length) z16 :: rest.drop (needN b.length + 1)).set (needN b.length) (comP b (done.length + 1)) = rest.take (needN b.length) ++ (comP b (done.length + 1) :: rest.drop (needN b.length + 1)) := by
     rw [List.set_append_right _ _ (by omega), hlt, Nat.sub_self]; rfl
    rw [← h5] at h6
    exact h6
   rw [hrest]; rfl
  refine ⟨e2, by omega, ?_, noCom_drop h.quiet _, pg16_drops h.pg _⟩
  intro x hx
  rcases List.mem_append.1 hx with hx | hx
  ·exact h.short x hx
  ·rw [List.mem_singleton.1 hx]; exact hb
theorem int_app {n : Nat} {s : List Page} {done : List Bys} {rest : List Page} (h : LogOk n s done rest) (h1 : 2 ≤ n) (h2 : n ≤ 8192) {b : Bys} (hb : b.length ≤ 65536) (hr : needN b.length + 1 ≤ rest.length) (k : Nat) (hk : k ≤ (appK (logOf done n) b).length) (ch : List Int) :
  ∃ s' ch', intD (still s) (appK (logOf done n) b) (k : Int) ch = (still s', (ch', 0)) ∧ ch'.length ≤ ch.length ∧ ((∃ rest', LogOk n s' done rest') ∧ k ≠ (appK (logOf done n) b).length ∨ ∃ rest', LogOk n s' (done ++ [b]) rest') := by
 have hz := h.size
 have hlen := h.len
 have hok : okD (still s) = true := still_ok (by omega) (by omega)
 have run0 : runD (still s) [] = (still s, (0, 0)) := run_still (by omega) (by omega) []
 obtain ⟨i, r1, r2⟩ := run_app h h1 h2 hb hr
 have full : k = (appK (logOf done n) b).length → ∃ s' ch', intD (still s) (appK (logOf done n) b) (k : Int) ch = (still s', (ch', 0)) ∧ ch'.length ≤ ch.length ∧ ((∃ rest', LogOk n s' done rest') ∧ k ≠ (appK (logOf done n) b).length ∨ ∃ rest', LogOk n s' (done ++ [b]) rest') := fun e => by
  have hl2 := r2.len
  refine ⟨_, ch, ?_, Nat.le_refl _, .inr ⟨_, r2⟩⟩
  rw [int_of hok hk (by rw [e, List.take_length]; exact r1), crash_still (by omega) (by omega)]
 have zero : k = 0 → k ≠ (appK (logOf done n) b).length → ∃ s' ch', intD (still s) (appK (logOf done n) b) (k : Int) ch = (still s', (ch', 0)) ∧ ch'.length ≤ ch.length ∧ ((∃ rest', LogOk n s' done rest') ∧ k ≠ (appK (logOf done n) b).length ∨ ∃ rest', LogOk n s' (done ++ [b]) rest') := fun e hne => by
  refine ⟨s, ch, ?_, Nat.le_refl _, .inl ⟨⟨rest, h⟩, hne⟩⟩
  rw [int_of hok hk (by rw [e]; exact run0), crash_still (by omega) (by omega)]
 -- a write that is pending
 have wr1 : ∀ (s1 : List Page) (a : Nat) (ps : List Page) (i : Int), a + ps.length ≤ s1.length → goD (still s1) [wrO a ps] i = ((s1, (wrS a ps, ())), (i + 1, 0)) := by
  intro s1 a ps i hle
  have hf : fitD (still s1) (a : Int) (ps.length : Int) = true := tt (by show (0 : Int) ≤ a ∧ (0 : Int) ≤ (ps.length : Int) ∧ (a : Int) + (ps.length : Int) ≤ (s1.length : Int); omega)
  have e1 : stepD (still s1) (wrO a ps) = ((s1, (wrS a ps, ())), 0) := by
   show (if (0 : Int) = 0 then (if fitD (still s1) (a : Int) (ps.length : Int) then _ else _) else _) = _
   rw [if_pos rfl, hf]; rfl
  rw [goD, e1, if_pos rfl]; rfl
 have e0 : (logOf done n).1 = ((1 + (logPs done 1).length : Nat) : Int) := by show 1 + ((logPs done 1).length : Int) = _; omega
 have e0' : (logOf done n).1 + (needN b.length : Int) = ((1 + (logPs done 1).length + needN b.length : Nat) : Int) := by rw [e0]; omega
 have e1 : ((logOf done n).2.1 + 1).toNat = done.length + 1 := by show ((done.length : Int) + 1).toNat = _; omega
 by_cases c : b = []
 ·subst c
  have ek : appK (logOf done n) [] = [wrO ((logOf done n).1 + needN ([] : Bys).length) [comP [] ((logOf done n).2.1 + 1).toNat], syO] := by unfold appK; rw [if_pos rfl]; rfl
  have el : (appK (logOf done n) []).length = 2 := by rw [ek]; rfl
  rw [el] at hk
  match k, hk with
  | 0, _ => exact zero rfl (by rw [el]; omega)
  | 2, _ => exact full el.symm
  | 1, _ =>
   have hrun : runD (still s) ((appK (logOf done n) []).take 1) = ((s, (wrS ((1 + (logPs done 1).length + needN ([] : Bys).length : Nat) : Int) [comP [] (done.length + 1)], ())), (0 + 1, 0)) := by
    rw [run_still (by omega) (by omega), ek, e0', e1]
    exact wr1 s _ _ 0 (by show _ + 1 ≤ _; omega)
   obtain ⟨s', ch', g1, g2, g3, g4⟩ := crash_wr (s := s) (a := 1 + (logPs done 1).length + needN ([] : Bys).length) (ps := [comP [] (done.length + 1)]) (by show _ + 1 ≤ _; omega) (by omega) (by omega) ch
   refine ⟨s', ch', ?_, g2, ?_⟩
   ·rw [int_of hok (by rw [el]; omega) hrun, g1]
   ·rcases one_log (b := []) h hb hr rfl g3 g4 with g | g
    ·exact .inl ⟨⟨_, g⟩, by rw [el]; omega⟩
    ·exact .inr ⟨_, g⟩
 ·have ek : appK (logOf done n) b = [wrO (logOf done n).1 (dataPs b), syO, wrO ((logOf done n).1 + needN b.length) [comP b ((logOf done n).2.1 + 1).toNat], syO] := by unfold appK; rw [if_neg c]; rfl
  have el : (appK (logOf done n) b).length = 4 := by rw [ek]; rfl
  rw [el] at hk
  -- the data are there
  have hlen2 : (diskPs done (dataPs b ++ rest.drop (needN b.length))).length = n := by
   simp only [diskPs, List.length_cons, List.length_append, dataPs_len, List.length_drop]; omega
  have h' : LogOk n (diskPs done (dataPs b ++ rest.drop (needN b.length))) done (dataPs b ++ rest.drop (needN b.length)) := by
   refine ⟨rfl, hlen2, h.short, ?_, pg16_app.2 ⟨data_16 b, pg16_drops h.pg _⟩⟩
   have : noCom (dataPs b ++ rest.drop (needN b.length)) = (noCom (dataPs b) && noCom (rest.drop (needN b.length))) := List.all_append
   rw [this, noCom_drop h.quiet, Bool.and_true]
   exact List.all_eq_true.2 fun p hp => tt (by have := isDat_iff.1 (datN_dat _ _ p hp).1; omega)
  match k, hk with
  | 0, _ => exact zero rfl (by rw [el]; omega)
  | 4, _ => exact full el.symm
  | 1, _ =>
   have hrun : runD (still s) ((appK (logOf done n) b).take 1) = ((s, (wrS ((1 + (logPs done 1).length : Nat) : Int) (dataPs b), ())), (0 + 1, 0)) := by
    rw [run_still (by omega) (by omega), ek, e0]
    exact wr1 s _ _ 0 (by rw [dataPs_len]; omega)
   obtain ⟨s', ch', g1, g2, g3, g4⟩ := crash_wr (s := s) (a := 1 + (logPs done 1).length) (ps := dataPs b) (by rw [dataPs_len]; omega) (by omega) (by omega) ch
   refine ⟨s', ch', ?_, g2, .inl ⟨keep_log (ps := dataPs b) h g3 (fun p hp => datN_dat _ _ p hp) g4, by rw [el]; omega⟩⟩
   rw [int_of hok (by rw [el]; omega) hrun, g1]
  | 2, _ =>
   have hrun : runD (still s) ((appK (logOf done n) b).take 2) = (still (diskPs done (dataPs b ++ rest.drop (needN b.length))), (0 + 1 + 1, 0)) := by
    rw [run_still (by omega) (by omega), ek]
    exact run_data h hr [] 0
   refine ⟨_, ch, ?_, Nat.le_refl _, .inl ⟨⟨_, h'⟩, by rw [el]; omega⟩⟩
   rw [int_of hok (by rw [el]; omega) hrun, crash_still (by omega) (by omega)]
  | 3, _ =>
   have hrun : runD (still s) ((appK (logOf done n) b).take 3) = ((diskPs done (dataPs b ++ rest.drop (needN b.length)), (wrS ((1 + (logPs done 1).length + needN b.length : Nat) : Int) [comP b (done.length + 1)], ())), (0 + 1 + 1 + 1, 0)) := by
    rw [run_still (by omega) (by omega), ek]
    show goD (still s) (wrO (logOf done n).1 (dataPs b) :: syO :: [wrO ((logOf done n).1 + needN b.length) [comP b ((logOf done n).2.1 + 1).toNat]]) 0 = _
    rw [run_data h hr, e0', e1]
    exact wr1 _ _ _ _ (by show _ + 1 ≤ _; omega)
   obtain ⟨s', ch', g1, g2, g3, g4⟩ := crash_wr (s := diskPs done (dataPs b ++ rest.drop (needN b.length))) (a := 1 + (logPs done 1).length + needN b.length) (ps := [comP b (done.length + 1)]) (by show _ + 1 ≤ _; omega) (by omega) (by omega) ch
   refine ⟨s', ch', ?_, g2, ?_⟩
   ·rw [int_of hok (by rw [el]; omega) hrun, g1]
   ·rcases one_log h' hb (by rw [List.length_append, dataPs_len, List.length_drop]; omega) (List.take_left' (dataPs_len b)) g3 g4 with g | g
    ·exact .inl ⟨⟨_, g⟩, by rw [el]; omega⟩
    ·exact .inr ⟨_, g⟩
end Go.AI
