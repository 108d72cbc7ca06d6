/- Texts of the proof, joined: LogU. Names of our own are shortened by program; the long ones stand in wip/. -/
import Derived.Test.YtcdajbmgoafnkaaGreatQwLogT
namespace Go.AI
open Go
theorem K60 (n : Nat) : Kan (List.replicate n z16) = true := List.all_eq_true.2 fun p hp => by rw [List.eq_of_mem_replicate hp]; decide
theorem Qb8 (n : Nat) : Jr1 (List.replicate n z16) = true := List.all_eq_true.2 fun p hp => by rw [List.eq_of_mem_replicate hp]; decide
theorem K61 (n : Nat) (h : 1 ≤ n) : Jgb n (Jh3 :: List.replicate (n - 1) z16) [] (List.replicate (n - 1) z16) :=
 ⟨rfl, by rw [List.length_cons, List.length_replicate]; omega, (fun _ hx => nomatch hx), K60 _, Qb8 _⟩
theorem K62 {n : Nat} {s : List Ja7} {done : List Bys} {rest : List Ja7} (h : Jgb n s done rest) (h1 : 2 ≤ n) (h2 : n ≤ 8192) {b : Bys} (hb : b.length ≤ 65536) (he : appE (Jcj done n) b = 0) :
  Qg7 (Jba s) (K4e (Jcj done n) b) = true ∧ K4e (Jcj done n) b = Jxf (Jcj done n) b ∧ Qdb (Jcj done n) b = Jcj (done ++ [b]) n ∧
  ∃ s' rest' i, J3l (Jba s) (K4e (Jcj done n) b) = (Jba s', (i, 0)) ∧ Jgb n s' (done ++ [b]) rest' := by
 have hr : Jar b.length + 1 ≤ rest.length := by
  rcases h.appE h1 h2 hb with ⟨_, c⟩ | ⟨c, _⟩
  ·exact c
  ·rw [he] at c; cases c
 have e : K4e (Jcj done n) b = Jxf (Jcj done n) b := if_pos he
 have hs := Qgs (Jcj done n) b hb
 have hl := h.len
 obtain ⟨i, e1, e2⟩ := K6z h h1 h2 hb hr
 refine ⟨Kr5.2 ⟨by show s.length ≤ _; omega, Nat.zero_le _, by rw [e]; omega, by rw [e]; omega⟩, e, ?_, _, _, i, by rw [e]; exact e1, e2⟩
 unfold Qdb
 rw [if_pos he, Qb7]
theorem Jgb.opP {n : Nat} {s : List Ja7} {done : List Bys} {rest : List Ja7} (h : Jgb n s done rest) (h2 : n ≤ 8192) : Ji1 (Jba s) = true := by
 have hl := h.len
 unfold Ji1 Qh1
 rw [show Jr1 (Jba s).1 = true from h.pg_all, Jie.2 ⟨by show s.length ≤ _; omega, Nat.zero_le _⟩]; rfl
theorem K63 {α : Type} (l : List α) (i j : Nat) (v z : α) (h : j < l.length) : (l.set i v).getD j z = if i = j then v else l.getD j z := by
 rw [Jd8 (by rw [List.length_set]; exact h), Jd8 h, List.getElem_set]
theorem Kx8 (d : DK) (n a : Nat) (ha : a < n) : ∀ (pl : List Int) (s : List Int × List Ja7), (∀ p, p ∈ pl → 0 ≤ p) → s.2.length = n → s.2.getD a z16 ∈ Krc d a → (pl.foldl (Kkz d) s).2.getD a z16 ∈ Krc d a
 | [], _, _, _, h => h
 | p :: pl, s, hp, hs, h => by
  rw [List.foldl_cons]
  refine Kx8 d n a ha pl _ (fun q hq => hp q (List.mem_cons_of_mem _ hq)) (by show (List.set _ _ _).length = _; rw [List.length_set]; exact hs) ?_
  show (List.set _ _ _).getD a z16 ∈ _
  have h0 := hp p (List.mem_cons_self ..)
  rw [K63 _ _ _ _ _ (by omega)]
  by_cases c : p.toNat = a
  ·have e : p = (a : Int) := by omega
   have hl := Qa6 d.1 d.2.1 (a : Int)
   have hd := K46 s.1 (Krc d a).length (by rw [Qa5]; exact hl.1)
   rw [if_pos c, e, Jd8 (by omega)]
   exact List.getElem_mem _
  ·rw [if_neg c]; exact h
theorem Ks3 (s : List Ja7) : ∀ (ps : List Ja7) (a i : Nat) (p : Ja7), p ∈ ((wrS a ps).filter fun q => q.1 == (i : Int)).map (fun q => q.2.1) → a ≤ i ∧ i < a + ps.length ∧ p = ps.getD (i - a) z16
 | [], _, _, _, h => by cases h
 | q :: ps, a, i, p, h => by
  have e : wrS (a : Int) (q :: ps) = ((a : Int), (q, ())) :: wrS ((a + 1 : Nat) : Int) ps := by rw [wrS, J0e]
  rw [e] at h
  by_cases c : a = i
  ·subst c
   rw [List.filter_cons_of_pos (by simp)] at h
   rcases List.mem_cons.1 h with rfl | h
   ·exact ⟨Nat.le_refl _, by rw [List.length_cons]; omega, by rw [Nat.sub_self]; rfl⟩
   ·have := Ks3 s ps (a + 1) a p h
    omega
  ·rw [List.filter_cons_of_neg (by simp; omega)] at h
   obtain ⟨h1, h2, h3⟩ := Ks3 s ps (a + 1) i p h
   refine ⟨by omega, by rw [List.length_cons]; omega, ?_⟩
   rw [h3, show i - a = (i - (a + 1)) + 1 by omega]; rfl
theorem Khu {s : List Ja7} {a : Nat} {ps : List Ja7} (h : a + ps.length ≤ s.length) (h1 : 1 ≤ s.length) (h2 : s.length ≤ 8192) (ch : List Int) :
  ∃ s' ch', Kco (s, (wrS a ps, ())) ch = (Jba s', (ch', 0)) ∧ ch'.length ≤ ch.length ∧ s'.length = s.length ∧ ∀ i, i < s.length → s'.getD i z16 = s.getD i z16 ∨ (a ≤ i ∧ i < a + ps.length ∧ s'.getD i z16 = ps.getD (i - a) z16) := by
 have hok : okD (s, (wrS a ps, ())) = true := Jsa.2 ⟨⟨h1, h2⟩, Qd0 ps a _ h⟩
 have hf := Kxa (s, (wrS a ps, ())) (Kcn (wrS a ps) []) (ch, s)
 refine ⟨(Qhw (s, (wrS a ps, ())) ch).2, (Qhw (s, (wrS a ps, ())) ch).1, ?_, hf.1, hf.2, fun i hi => ?_⟩
 ·unfold Kco; rw [if_pos hok]; rfl
 ·have hm : (Qhw (s, (wrS a ps, ())) ch).2.getD i z16 ∈ Krc (s, (wrS a ps, ())) i :=
   Kx8 (s, (wrS a ps, ())) s.length i hi _ (ch, s) (fun p hp => (Qh6 (Jsa.1 hok).2 (J05 _ [] p hp)).1) rfl (by
    show s.getD i z16 ∈ _ :: _
    rw [Int.toNat_natCast]; exact List.mem_cons_self)
  rcases List.mem_cons.1 hm with hm | hm
  ·rw [Int.toNat_natCast] at hm; exact .inl hm
  ·exact .inr (Ks3 s ps a i _ hm)
theorem Jqh {s : List Ja7} (h1 : 1 ≤ s.length) (h2 : s.length ≤ 8192) (ch : List Int) : Kco (Jba s) ch = (Jba s, (ch, 0)) := by
 unfold Kco
 rw [if_pos (Jy8 h1 h2)]; rfl
theorem J67 {d d' : DK} {l : List DOp} {k : Nat} {i : Int} {ch : List Int} (hd : okD d = true) (hk : k ≤ l.length) (hr : J3l d (l.take k) = (d', (i, 0))) : Qe0 d l (k : Int) ch = Kco d' ch := by
 unfold Qe0
 rw [if_pos hd, if_pos (by omega), Int.toNat_natCast, hr, if_pos rfl]
theorem Qb9 {n : Nat} {s s' : List Ja7} {done : List Bys} {rest ps : List Ja7} (h : Jgb n s done rest) (hl : s'.length = s.length) (hps : ∀ p, p ∈ ps → Jew p = true ∧ p.length = 16)
  (hs : ∀ i, i < s.length → s'.getD i z16 = s.getD i z16 ∨ (1 + (Jbv done 1).length ≤ i ∧ i < 1 + (Jbv done 1).length + ps.length ∧ s'.getD i z16 = ps.getD (i - (1 + (Jbv done 1).length)) z16)) :
  ∃ rest', Jgb n s' done rest' := by
 have hz := h.size
 have hlen := h.len
 refine ⟨s'.drop (1 + (Jbv done 1).length), ?_, by omega, h.short, ?_, ?_⟩
 ·have e : s'.take (1 + (Jbv done 1).length) = Jh3 :: Jbv done 1 := by
   apply List.ext_getElem
   ·rw [List.length_take, List.length_cons]; omega
   intro i hi1 hi2
   rw [List.length_cons] at hi2
   have hi3 : i < s.length := by omega
   rcases hs i hi3 with e | ⟨e, _, _⟩
   ·rw [List.getElem_take, ← Jd8 (d := z16) (show i < s'.length by omega), e, h.eq]
    have : Jd4 done rest = (Jh3 :: Jbv done 1) ++ rest := rfl
    rw [this, List.getD, List.getElem?_append_left (by rw [List.length_cons]; omega), List.getElem?_eq_getElem (by rw [List.length_cons]; omega)]; rfl
   ·omega
  have := List.take_append_drop (1 + (Jbv done 1).length) s'
  rw [e] at this
  exact this.symm
 all_goals
  refine List.all_eq_true.2 fun p hp => ?_
  obtain ⟨j, hj, rfl⟩ := List.getElem_of_mem hp
  rw [List.length_drop] at hj
  rw [List.getElem_drop, ← Jd8 (d := z16) (show 1 + (Jbv done 1).length + j < s'.length by omega)]
  have hrj : j < rest.length := by omega
  have hsr : s.getD (1 + (Jbv done 1).length + j) z16 = rest[j] := by
   have : Jd4 done rest = (Jh3 :: Jbv done 1) ++ rest := rfl
   rw [h.eq, this, List.getD, List.getElem?_append_right (by rw [List.length_cons]; omega), List.length_cons, show 1 + (Jbv done 1).length + j - ((Jbv done 1).length + 1) = j by omega, List.getElem?_eq_getElem hrj]; rfl
  rcases hs (1 + (Jbv done 1).length + j) (by omega) with e | ⟨_, e2, e⟩
  ·rw [e, hsr]
   first | exact List.all_eq_true.1 h.quiet _ (List.getElem_mem _) | exact List.all_eq_true.1 h.pg _ (List.getElem_mem _)
  ·have hj2 : j < ps.length := by omega
   rw [e, show 1 + (Jbv done 1).length + j - (1 + (Jbv done 1).length) = j by omega, Jd8 hj2]
   obtain ⟨g1, g2⟩ := hps _ (List.getElem_mem hj2)
   first | exact tt g2 | exact tt (by have := Jmc.1 g1; omega)
theorem K64 {n : Nat} {s s' : List Ja7} {done : List Bys} {rest : List Ja7} {b : Bys} (h : Jgb n s done rest) (hb : b.length ≤ 65536) (hr : Jar b.length + 1 ≤ rest.length) (hd : rest.take (Jar b.length) = Jcn b) (hl : s'.length = s.length)
  (hs : ∀ i, i < s.length → s'.getD i z16 = s.getD i z16 ∨ (1 + (Jbv done 1).length + Jar b.length ≤ i ∧ i < 1 + (Jbv done 1).length + Jar b.length + 1 ∧ s'.getD i z16 = ([Jtx b (done.length + 1)] : List Ja7).getD (i - (1 + (Jbv done 1).length + Jar b.length)) z16)) :
  Jgb n s' done rest ∨ Jgb n s' (done ++ [b]) (rest.drop (Jar b.length + 1)) := by
 have hz := h.size
 have hlen := h.len
 by_cases c : s'.getD (1 + (Jbv done 1).length + Jar b.length) z16 = s.getD (1 + (Jbv done 1).length + Jar b.length) z16
 ·left
  have e : s' = s := by
   apply List.ext_getElem hl
   intro i hi1 hi2
   rw [← Jd8 (d := z16) hi1, ← Jd8 (d := z16) hi2]
   rcases hs i hi2 with e | ⟨e1, e2, _⟩
   ·exact e
   ·obtain rfl : i = 1 + (Jbv done 1).length + Jar b.length := by omega
    exact c
  rw [e]; exact h
 ·right
  have hc : s'.getD (1 + (Jbv done 1).length + Jar b.length) z16 = Jtx b (done.length + 1) := by
   rcases hs (1 + (Jbv done 1).length + Jar b.length) (by omega) with e | ⟨_, _, e⟩
   ·exact absurd e c
   ·rw [e, Nat.sub_self]; rfl
  have e : s' = s.set (1 + (Jbv done 1).length + Jar b.length) (Jtx b (done.length + 1)) := by
   apply List.ext_getElem (by rw [List.length_set]; exact hl)
   intro i hi1 hi2
   rw [List.length_set] at hi2
   rw [← Jd8 (d := z16) hi1, List.getElem_set]
   by_cases ci : 1 + (Jbv done 1).length + Jar b.length = i
   ·subst ci; rw [if_pos rfl, hc]
   ·rw [if_neg ci, ← Jd8 (d := z16) hi2]
    rcases hs i hi2 with e | ⟨e1, e2, _⟩
    ·exact e
    ·omega
  have e2 : s' = Jd4 (done ++ [b]) (rest.drop (Jar b.length + 1)) := by
   have hh : Jd4 done rest = (Jh3 :: Jbv done 1) ++ rest := rfl
   rw [e, h.eq, Jqg, hh, List.set_append_right _ _ (by rw [List.length_cons]; omega), List.length_cons, show 1 + (Jbv done 1).length + Jar b.length - ((Jbv done 1).length + 1) = Jar b.length by omega]
   have hrest : rest.set (Jar b.length) (Jtx b (done.length + 1)) = blk b (done.length + 1) ++ rest.drop (Jar b.length + 1) := by
    unfold blk
    rw [← hd, List.append_assoc]
    have h3 := List.take_append_drop (Jar b.length) rest
    have h4 : rest.drop (Jar b.length) = rest.getD (Jar b.length) z16 :: rest.drop (Jar b.length + 1) := Jcu z16 (by omega)
    have h5 : rest = rest.take (Jar b.length) ++ rest.getD (Jar b.length) z16 :: rest.drop (Jar b.length + 1) := by rw [← h4, h3]
    have hlt : (rest.take (Jar b.length)).length = Jar b.length := by rw [List.length_take]; omega
    have h6 : (rest.take (Jar b.length) ++ rest.getD (Jar b.length) z16 :: rest.drop (Jar b.length + 1)).set (Jar b.length) (Jtx b (done.length + 1)) = rest.take (Jar b.length) ++ (Jtx b (done.length + 1) :: rest.drop (Jar b.length + 1)) := by
     rw [List.set_append_right _ _ (by omega), hlt, Nat.sub_self]; rfl
    rw [← h5] at h6
    exact h6
   rw [hrest]; rfl
  refine ⟨e2, by omega, ?_, J1h h.quiet _, Juu h.pg _⟩
  intro x hx
  rcases List.mem_append.1 hx with hx | hx
  ·exact h.short x hx
  ·rw [List.mem_singleton.1 hx]; exact hb
theorem Qgt {n : Nat} {s : List Ja7} {done : List Bys} {rest : List Ja7} (h : Jgb n s done rest) (h1 : 2 ≤ n) (h2 : n ≤ 8192) {b : Bys} (hb : b.length ≤ 65536) (hr : Jar b.length + 1 ≤ rest.length) (k : Nat) (hk : k ≤ (Jxf (Jcj done n) b).length) (ch : List Int) :
  ∃ s' ch', Qe0 (Jba s) (Jxf (Jcj done n) b) (k : Int) ch = (Jba s', (ch', 0)) ∧ ch'.length ≤ ch.length ∧ ((∃ rest', Jgb n s' done rest') ∧ k ≠ (Jxf (Jcj done n) b).length ∨ ∃ rest', Jgb n s' (done ++ [b]) rest') := by
 have hz := h.size
 have hlen := h.len
 have hok : okD (Jba s) = true := Jy8 (by omega) (by omega)
 have run0 : J3l (Jba s) [] = (Jba s, (0, 0)) := Jjz (by omega) (by omega) []
 obtain ⟨i, r1, r2⟩ := K6z h h1 h2 hb hr
 have full : k = (Jxf (Jcj done n) b).length → ∃ s' ch', Qe0 (Jba s) (Jxf (Jcj done n) b) (k : Int) ch = (Jba s', (ch', 0)) ∧ ch'.length ≤ ch.length ∧ ((∃ rest', Jgb n s' done rest') ∧ k ≠ (Jxf (Jcj done n) b).length ∨ ∃ rest', Jgb n s' (done ++ [b]) rest') := fun e => by
  have hl2 := r2.len
  refine ⟨_, ch, ?_, Nat.le_refl _, .inr ⟨_, r2⟩⟩
  rw [J67 hok hk (by rw [e, List.take_length]; exact r1), Jqh (by omega) (by omega)]
 have zero : k = 0 → k ≠ (Jxf (Jcj done n) b).length → ∃ s' ch', Qe0 (Jba s) (Jxf (Jcj done n) b) (k : Int) ch = (Jba s', (ch', 0)) ∧ ch'.length ≤ ch.length ∧ ((∃ rest', Jgb n s' done rest') ∧ k ≠ (Jxf (Jcj done n) b).length ∨ ∃ rest', Jgb n s' (done ++ [b]) rest') := fun e hne => by
  refine ⟨s, ch, ?_, Nat.le_refl _, .inl ⟨⟨rest, h⟩, hne⟩⟩
  rw [J67 hok hk (by rw [e]; exact run0), Jqh (by omega) (by omega)]
 -- a write that is pending
 have wr1 : ∀ (s1 : List Ja7) (a : Nat) (ps : List Ja7) (i : Int), a + ps.length ≤ s1.length → goD (Jba s1) [wrO a ps] i = ((s1, (wrS a ps, ())), (i + 1, 0)) := by
  intro s1 a ps i hle
  have hf : Kfi (Jba s1) (a : Int) (ps.length : Int) = true := tt (by show (0 : Int) ≤ a ∧ (0 : Int) ≤ (ps.length : Int) ∧ (a : Int) + (ps.length : Int) ≤ (s1.length : Int); omega)
  have e1 : Jm6 (Jba s1) (wrO a ps) = ((s1, (wrS a ps, ())), 0) := by
   show (if (0 : Int) = 0 then (if Kfi (Jba s1) (a : Int) (ps.length : Int) then _ else _) else _) = _
   rw [if_pos rfl, hf]; rfl
  rw [goD, e1, if_pos rfl]; rfl
 have e0 : (Jcj done n).1 = ((1 + (Jbv done 1).length : Nat) : Int) := by show 1 + ((Jbv done 1).length : Int) = _; omega
 have e0' : (Jcj done n).1 + (Jar b.length : Int) = ((1 + (Jbv done 1).length + Jar b.length : Nat) : Int) := by rw [e0]; omega
 have e1 : ((Jcj done n).2.1 + 1).toNat = done.length + 1 := by show ((done.length : Int) + 1).toNat = _; omega
 by_cases c : b = []
 ·subst c
  have ek : Jxf (Jcj done n) [] = [wrO ((Jcj done n).1 + Jar ([] : Bys).length) [Jtx [] ((Jcj done n).2.1 + 1).toNat], syO] := by unfold Jxf; rw [if_pos rfl]; rfl
  have el : (Jxf (Jcj done n) []).length = 2 := by rw [ek]; rfl
  rw [el] at hk
  match k, hk with
  | 0, _ => exact zero rfl (by rw [el]; omega)
  | 2, _ => exact full el.symm
  | 1, _ =>
   have hrun : J3l (Jba s) ((Jxf (Jcj done n) []).take 1) = ((s, (wrS ((1 + (Jbv done 1).length + Jar ([] : Bys).length : Nat) : Int) [Jtx [] (done.length + 1)], ())), (0 + 1, 0)) := by
    rw [Jjz (by omega) (by omega), ek, e0', e1]
    exact wr1 s _ _ 0 (by show _ + 1 ≤ _; omega)
   obtain ⟨s', ch', g1, g2, g3, g4⟩ := Khu (s := s) (a := 1 + (Jbv done 1).length + Jar ([] : Bys).length) (ps := [Jtx [] (done.length + 1)]) (by show _ + 1 ≤ _; omega) (by omega) (by omega) ch
   refine ⟨s', ch', ?_, g2, ?_⟩
   ·rw [J67 hok (by rw [el]; omega) hrun, g1]
   ·rcases K64 (b := []) h hb hr rfl g3 g4 with g | g
    ·exact .inl ⟨⟨_, g⟩, by rw [el]; omega⟩
    ·exact .inr ⟨_, g⟩
 ·have ek : Jxf (Jcj done n) b = [wrO (Jcj done n).1 (Jcn b), syO, wrO ((Jcj done n).1 + Jar b.length) [Jtx b ((Jcj done n).2.1 + 1).toNat], syO] := by unfold Jxf; rw [if_neg c]; rfl
  have el : (Jxf (Jcj done n) b).length = 4 := by rw [ek]; rfl
  rw [el] at hk
  -- the data are there
  have hlen2 : (Jd4 done (Jcn b ++ rest.drop (Jar b.length))).length = n := by
   simp only [Jd4, List.length_cons, List.length_append, Jb7, List.length_drop]; omega
  have h' : Jgb n (Jd4 done (Jcn b ++ rest.drop (Jar b.length))) done (Jcn b ++ rest.drop (Jar b.length)) := by
   refine ⟨rfl, hlen2, h.short, ?_, J48.2 ⟨Ks2 b, Juu h.pg _⟩⟩
   have : Kan (Jcn b ++ rest.drop (Jar b.length)) = (Kan (Jcn b) && Kan (rest.drop (Jar b.length))) := List.all_append
   rw [this, J1h h.quiet, Bool.and_true]
   exact List.all_eq_true.2 fun p hp => tt (by have := Jmc.1 (Jza _ _ p hp).1; omega)
  match k, hk with
  | 0, _ => exact zero rfl (by rw [el]; omega)
  | 4, _ => exact full el.symm
  | 1, _ =>
   have hrun : J3l (Jba s) ((Jxf (Jcj done n) b).take 1) = ((s, (wrS ((1 + (Jbv done 1).length : Nat) : Int) (Jcn b), ())), (0 + 1, 0)) := by
    rw [Jjz (by omega) (by omega), ek, e0]
    exact wr1 s _ _ 0 (by rw [Jb7]; omega)
   obtain ⟨s', ch', g1, g2, g3, g4⟩ := Khu (s := s) (a := 1 + (Jbv done 1).length) (ps := Jcn b) (by rw [Jb7]; omega) (by omega) (by omega) ch
   refine ⟨s', ch', ?_, g2, .inl ⟨Qb9 (ps := Jcn b) h g3 (fun p hp => Jza _ _ p hp) g4, by rw [el]; omega⟩⟩
   rw [J67 hok (by rw [el]; omega) hrun, g1]
  | 2, _ =>
   have hrun : J3l (Jba s) ((Jxf (Jcj done n) b).take 2) = (Jba (Jd4 done (Jcn b ++ rest.drop (Jar b.length))), (0 + 1 + 1, 0)) := by
    rw [Jjz (by omega) (by omega), ek]
    exact Kht h hr [] 0
   refine ⟨_, ch, ?_, Nat.le_refl _, .inl ⟨⟨_, h'⟩, by rw [el]; omega⟩⟩
   rw [J67 hok (by rw [el]; omega) hrun, Jqh (by omega) (by omega)]
  | 3, _ =>
   have hrun : J3l (Jba s) ((Jxf (Jcj done n) b).take 3) = ((Jd4 done (Jcn b ++ rest.drop (Jar b.length)), (wrS ((1 + (Jbv done 1).length + Jar b.length : Nat) : Int) [Jtx b (done.length + 1)], ())), (0 + 1 + 1 + 1, 0)) := by
    rw [Jjz (by omega) (by omega), ek]
    show goD (Jba s) (wrO (Jcj done n).1 (Jcn b) :: syO :: [wrO ((Jcj done n).1 + Jar b.length) [Jtx b ((Jcj done n).2.1 + 1).toNat]]) 0 = _
    rw [Kht h hr, e0', e1]
    exact wr1 _ _ _ _ (by show _ + 1 ≤ _; omega)
   obtain ⟨s', ch', g1, g2, g3, g4⟩ := Khu (s := Jd4 done (Jcn b ++ rest.drop (Jar b.length))) (a := 1 + (Jbv done 1).length + Jar b.length) (ps := [Jtx b (done.length + 1)]) (by show _ + 1 ≤ _; omega) (by omega) (by omega) ch
   refine ⟨s', ch', ?_, g2, ?_⟩
   ·rw [J67 hok (by rw [el]; omega) hrun, g1]
   ·rcases K64 h' hb (by rw [List.length_append, Jb7, List.length_drop]; omega) (List.take_left' (Jb7 b)) g3 g4 with g | g
    ·exact .inl ⟨⟨_, g⟩, by rw [el]; omega⟩
    ·exact .inr ⟨_, g⟩
end Go.AI
