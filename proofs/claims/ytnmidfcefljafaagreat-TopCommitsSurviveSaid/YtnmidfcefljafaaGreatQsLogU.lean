/- Texts of the proof, joined: LogU. Names of our own are shortened by program; the long ones stand in wip/. -/
import Derived.Test.YtnmidfcefljafaaGreatQsLogT
namespace Go.AI
open Go
theorem K2t (a : Jf5) : Jcu (.pair (.int .i64) (.pair (.int .i64) (.pair (.int .i64) .unit))) a a = true := (Joe (.pair (.int .i64) (.pair (.int .i64) (.pair (.int .i64) .unit))) rfl a a).2 rfl
theorem Kyc (n : Nat) : J55 (List.replicate n z16) = true := List.all_eq_true.2 fun p hp => by rw [List.eq_of_mem_replicate hp]; decide
theorem K2u (n : Nat) : Jp8 (List.replicate n z16) = true := List.all_eq_true.2 fun p hp => by rw [List.eq_of_mem_replicate hp]; decide
theorem Kyd (n : Nat) (h : 1 ≤ n) : Jf0 n (Jhe :: List.replicate (n - 1) z16) [] (List.replicate (n - 1) z16) :=
 ⟨rfl, by rw [List.length_cons, List.length_replicate]; omega, (fun _ hx => nomatch hx), Kyc _, K2u _⟩
theorem Kye {n : Nat} {s : List Ja4} {done : List Bys} {rest : List Ja4} (h : Jf0 n s done rest) (h1 : 2 ≤ n) (h2 : n ≤ 8192) {b : Bys} (hb : b.length ≤ 65536) (he : appE (Jb7 done n) b = 0) :
  Ktz (Ja8 s) (K0h (Jb7 done n) b) = true ∧ K0h (Jb7 done n) b = Juu (Jb7 done n) b ∧ K5k (Jb7 done n) b = Jb7 (done ++ [b]) n ∧
  ∃ s' rest' i, Jo3 (Ja8 s) (K0h (Jb7 done n) b) = (Ja8 s', (i, 0)) ∧ Jf0 n s' (done ++ [b]) rest' := by
 have hr : Jas b.length + 1 ≤ rest.length := by
  rcases h.appE h1 h2 hb with ⟨_, c⟩ | ⟨c, _⟩
  ·exact c
  ·rw [he] at c; cases c
 have e : K0h (Jb7 done n) b = Juu (Jb7 done n) b := if_pos he
 have hs := K6z (Jb7 done n) b hb
 have hl := h.len
 obtain ⟨i, e1, e2⟩ := Kyb h h1 h2 hb hr
 refine ⟨Jt4.2 ⟨by show s.length ≤ _; omega, Nat.zero_le _, by rw [e]; omega, by rw [e]; omega⟩, e, ?_, _, _, i, by rw [e]; exact e1, e2⟩
 unfold K5k
 rw [if_pos he, K2s]
theorem Jf0.opP {n : Nat} {s : List Ja4} {done : List Bys} {rest : List Ja4} (h : Jf0 n s done rest) (h2 : n ≤ 8192) : Ji7 (Ja8 s) = true := by
 have hl := h.len
 unfold Ji7 K8e
 rw [show Jp8 (Ja8 s).1 = true from h.pg_all, Jen.2 ⟨by show s.length ≤ _; omega, Nat.zero_le _⟩]; rfl
theorem Kyf {α : Type} (l : List α) (i j : Nat) (v z : α) (h : j < l.length) : (l.set i v).getD j z = if i = j then v else l.getD j z := by
 rw [Jem (by rw [List.length_set]; exact h), Jem h, List.getElem_set]
theorem Kqq (d : DK) (n a : Nat) (ha : a < n) : ∀ (pl : List Int) (s : List Int × List Ja4), (∀ p, p ∈ pl → 0 ≤ p) → s.2.length = n → s.2.getD a z16 ∈ Kkq d a → (pl.foldl (J2s d) s).2.getD a z16 ∈ Kkq d a
 | [], _, _, _, h => h
 | p :: pl, s, hp, hs, h => by
  rw [List.foldl_cons]
  refine Kqq d n a ha pl _ (fun q hq => hp q (List.mem_cons_of_mem _ hq)) (by show (List.set _ _ _).length = _; rw [List.length_set]; exact hs) ?_
  show (List.set _ _ _).getD a z16 ∈ _
  have h0 := hp p (List.mem_cons_self ..)
  rw [Kyf _ _ _ _ _ (by omega)]
  by_cases c : p.toNat = a
  ·have e : p = (a : Int) := by omega
   have hl := Kba d.1 d.2.1 (a : Int)
   have hd := Kft s.1 (Kkq d a).length (by rw [K1v]; exact hl.1)
   rw [if_pos c, e, Jem (by omega)]
   exact List.getElem_mem _
  ·rw [if_neg c]; exact h
theorem Kmc (s : List Ja4) : ∀ (ps : List Ja4) (a i : Nat) (p : Ja4), p ∈ ((wrS a ps).filter fun q => q.1 == (i : Int)).map (fun q => q.2.1) → a ≤ i ∧ i < a + ps.length ∧ p = ps.getD (i - a) z16
 | [], _, _, _, h => by cases h
 | q :: ps, a, i, p, h => by
  have e : wrS (a : Int) (q :: ps) = ((a : Int), (q, ())) :: wrS ((a + 1 : Nat) : Int) ps := by rw [wrS, Jwc]
  rw [e] at h
  by_cases c : a = i
  ·subst c
   rw [List.filter_cons_of_pos (by simp)] at h
   rcases List.mem_cons.1 h with rfl | h
   ·exact ⟨Nat.le_refl _, by rw [List.length_cons]; omega, by rw [Nat.sub_self]; rfl⟩
   ·have := Kmc s ps (a + 1) a p h
    omega
  ·rw [List.filter_cons_of_neg (by simp; omega)] at h
   obtain ⟨h1, h2, h3⟩ := Kmc s ps (a + 1) i p h
   refine ⟨by omega, by rw [List.length_cons]; omega, ?_⟩
   rw [h3, show i - a = (i - (a + 1)) + 1 by omega]; rfl
theorem Kce {s : List Ja4} {a : Nat} {ps : List Ja4} (h : a + ps.length ≤ s.length) (h1 : 1 ≤ s.length) (h2 : s.length ≤ 8192) (ch : List Int) :
  ∃ s' ch', Jsv (s, (wrS a ps, ())) ch = (Ja8 s', (ch', 0)) ∧ ch'.length ≤ ch.length ∧ s'.length = s.length ∧ ∀ i, i < s.length → s'.getD i z16 = s.getD i z16 ∨ (a ≤ i ∧ i < a + ps.length ∧ s'.getD i z16 = ps.getD (i - a) z16) := by
 have hok : okD (s, (wrS a ps, ())) = true := Jod.2 ⟨⟨h1, h2⟩, K4h ps a _ h⟩
 have hf := Kbb (s, (wrS a ps, ())) (Jhn (wrS a ps) []) (ch, s)
 refine ⟨(K77 (s, (wrS a ps, ())) ch).2, (K77 (s, (wrS a ps, ())) ch).1, ?_, hf.1, hf.2, fun i hi => ?_⟩
 ·unfold Jsv; rw [if_pos hok]; rfl
 ·have hm : (K77 (s, (wrS a ps, ())) ch).2.getD i z16 ∈ Kkq (s, (wrS a ps, ())) i :=
   Kqq (s, (wrS a ps, ())) s.length i hi _ (ch, s) (fun p hp => (K3z (Jod.1 hok).2 (Jsa _ [] p hp)).1) rfl (by
    show s.getD i z16 ∈ _ :: _
    rw [Int.toNat_natCast]; exact List.mem_cons_self)
  rcases List.mem_cons.1 hm with hm | hm
  ·rw [Int.toNat_natCast] at hm; exact .inl hm
  ·exact .inr (Kmc s ps a i _ hm)
theorem Jok {s : List Ja4} (h1 : 1 ≤ s.length) (h2 : s.length ≤ 8192) (ch : List Int) : Jsv (Ja8 s) ch = (Ja8 s, (ch, 0)) := by
 unfold Jsv
 rw [if_pos (Jwk h1 h2)]; rfl
theorem J3d {d d' : DK} {l : List DOp} {k : Nat} {i : Int} {ch : List Int} (hd : okD d = true) (hk : k ≤ l.length) (hr : Jo3 d (l.take k) = (d', (i, 0))) : Kkr d l (k : Int) ch = Jsv d' ch := by
 unfold Kkr
 rw [if_pos hd, if_pos (by omega), Int.toNat_natCast, hr, if_pos rfl]
theorem K2v {n : Nat} {s s' : List Ja4} {done : List Bys} {rest ps : List Ja4} (h : Jf0 n s done rest) (hl : s'.length = s.length) (hps : ∀ p, p ∈ ps → Jet p = true ∧ p.length = 16)
  (hs : ∀ i, i < s.length → s'.getD i z16 = s.getD i z16 ∨ (1 + (Jbw done 1).length ≤ i ∧ i < 1 + (Jbw done 1).length + ps.length ∧ s'.getD i z16 = ps.getD (i - (1 + (Jbw done 1).length)) z16)) :
  ∃ rest', Jf0 n s' done rest' := by
 have hz := h.size
 have hlen := h.len
 refine ⟨s'.drop (1 + (Jbw done 1).length), ?_, by omega, h.short, ?_, ?_⟩
 ·have e : s'.take (1 + (Jbw done 1).length) = Jhe :: Jbw done 1 := by
   apply List.ext_getElem
   ·rw [List.length_take, List.length_cons]; omega
   intro i hi1 hi2
   rw [List.length_cons] at hi2
   have hi3 : i < s.length := by omega
   rcases hs i hi3 with e | ⟨e, _, _⟩
   ·rw [List.getElem_take, ← Jem (d := z16) (show i < s'.length by omega), e, h.eq]
    have : Jd2 done rest = (Jhe :: Jbw done 1) ++ rest := rfl
    rw [this, List.getD, List.getElem?_append_left (by rw [List.length_cons]; omega), List.getElem?_eq_getElem (by rw [List.length_cons]; omega)]; rfl
   ·omega
  have := List.take_append_drop (1 + (Jbw done 1).length) s'
  rw [e] at this
  exact this.symm
 all_goals
  refine List.all_eq_true.2 fun p hp => ?_
  obtain ⟨j, hj, rfl⟩ := List.getElem_of_mem hp
  rw [List.length_drop] at hj
  rw [List.getElem_drop, ← Jem (d := z16) (show 1 + (Jbw done 1).length + j < s'.length by omega)]
  have hrj : j < rest.length := by omega
  have hsr : s.getD (1 + (Jbw done 1).length + j) z16 = rest[j] := by
   have : Jd2 done rest = (Jhe :: Jbw done 1) ++ rest := rfl
   rw [h.eq, this, List.getD, List.getElem?_append_right (by rw [List.length_cons]; omega), List.length_cons, show 1 + (Jbw done 1).length + j - ((Jbw done 1).length + 1) = j by omega, List.getElem?_eq_getElem hrj]; rfl
  rcases hs (1 + (Jbw done 1).length + j) (by omega) with e | ⟨_, e2, e⟩
  ·rw [e, hsr]
   first | exact List.all_eq_true.1 h.quiet _ (List.getElem_mem _) | exact List.all_eq_true.1 h.pg _ (List.getElem_mem _)
  ·have hj2 : j < ps.length := by omega
   rw [e, show 1 + (Jbw done 1).length + j - (1 + (Jbw done 1).length) = j by omega, Jem hj2]
   obtain ⟨g1, g2⟩ := hps _ (List.getElem_mem hj2)
   first | exact tt g2 | exact tt (by have := Jky.1 g1; omega)
theorem Kyg {n : Nat} {s s' : List Ja4} {done : List Bys} {rest : List Ja4} {b : Bys} (h : Jf0 n s done rest) (hb : b.length ≤ 65536) (hr : Jas b.length + 1 ≤ rest.length) (hd : rest.take (Jas b.length) = Jcs b) (hl : s'.length = s.length)
  (hs : ∀ i, i < s.length → s'.getD i z16 = s.getD i z16 ∨ (1 + (Jbw done 1).length + Jas b.length ≤ i ∧ i < 1 + (Jbw done 1).length + Jas b.length + 1 ∧ s'.getD i z16 = ([Jrt b (done.length + 1)] : List Ja4).getD (i - (1 + (Jbw done 1).length + Jas b.length)) z16)) :
  Jf0 n s' done rest ∨ Jf0 n s' (done ++ [b]) (rest.drop (Jas b.length + 1)) := by
 have hz := h.size
 have hlen := h.len
 by_cases c : s'.getD (1 + (Jbw done 1).length + Jas b.length) z16 = s.getD (1 + (Jbw done 1).length + Jas b.length) z16
 ·left
  have e : s' = s := by
   apply List.ext_getElem hl
   intro i hi1 hi2
   rw [← Jem (d := z16) hi1, ← Jem (d := z16) hi2]
   rcases hs i hi2 with e | ⟨e1, e2, _⟩
   ·exact e
   ·obtain rfl : i = 1 + (Jbw done 1).length + Jas b.length := by omega
    exact c
  rw [e]; exact h
 ·right
  have hc : s'.getD (1 + (Jbw done 1).length + Jas b.length) z16 = Jrt b (done.length + 1) := by
   rcases hs (1 + (Jbw done 1).length + Jas b.length) (by omega) with e | ⟨_, _, e⟩
   ·exact absurd e c
   ·rw [e, Nat.sub_self]; rfl
  have e : s' = s.set (1 + (Jbw done 1).length + Jas b.length) (Jrt b (done.length + 1)) := by
   apply List.ext_getElem (by rw [List.length_set]; exact hl)
   intro i hi1 hi2
   rw [List.length_set] at hi2
   rw [← Jem (d := z16) hi1, List.getElem_set]
   by_cases ci : 1 + (Jbw done 1).length + Jas b.length = i
   ·subst ci; rw [if_pos rfl, hc]
   ·rw [if_neg ci, ← Jem (d := z16) hi2]
    rcases hs i hi2 with e | ⟨e1, e2, _⟩
    ·exact e
    ·omega
  have e2 : s' = Jd2 (done ++ [b]) (rest.drop (Jas b.length + 1)) := by
   have hh : Jd2 done rest = (Jhe :: Jbw done 1) ++ rest := rfl
   rw [e, h.eq, Joj, hh, List.set_append_right _ _ (by rw [List.length_cons]; omega), List.length_cons, show 1 + (Jbw done 1).length + Jas b.length - ((Jbw done 1).length + 1) = Jas b.length by omega]
   have hrest : rest.set (Jas b.length) (Jrt b (done.length + 1)) = blk b (done.length + 1) ++ rest.drop (Jas b.length + 1) := by
    unfold blk
    rw [← hd, List.append_assoc]
    have h3 := List.take_append_drop (Jas b.length) rest
    have h4 : rest.drop (Jas b.length) = rest.getD (Jas b.length) z16 :: rest.drop (Jas b.length + 1) := Jcz z16 (by omega)
    have h5 : rest = rest.take (Jas b.length) ++ rest.getD (Jas b.length) z16 :: rest.drop (Jas b.length + 1) := by rw [← h4, h3]
    have hlt : (rest.take (Jas b.length)).length = Jas b.length := by rw [List.length_take]; omega
    have h6 : (rest.take (Jas b.length) ++ rest.getD (Jas b.length) z16 :: rest.drop (Jas b.length + 1)).set (Jas b.length) (Jrt b (done.length + 1)) = rest.take (Jas b.length) ++ (Jrt b (done.length + 1) :: rest.drop (Jas b.length + 1)) := by
     rw [List.set_append_right _ _ (by omega), hlt, Nat.sub_self]; rfl
    rw [← h5] at h6
    exact h6
   rw [hrest]; rfl
  refine ⟨e2, by omega, ?_, Jyi h.quiet _, Jsg h.pg _⟩
  intro x hx
  rcases List.mem_append.1 hx with hx | hx
  ·exact h.short x hx
  ·rw [List.mem_singleton.1 hx]; exact hb
theorem K60 {n : Nat} {s : List Ja4} {done : List Bys} {rest : List Ja4} (h : Jf0 n s done rest) (h1 : 2 ≤ n) (h2 : n ≤ 8192) {b : Bys} (hb : b.length ≤ 65536) (hr : Jas b.length + 1 ≤ rest.length) (k : Nat) (hk : k ≤ (Juu (Jb7 done n) b).length) (ch : List Int) :
  ∃ s' ch', Kkr (Ja8 s) (Juu (Jb7 done n) b) (k : Int) ch = (Ja8 s', (ch', 0)) ∧ ch'.length ≤ ch.length ∧ ((∃ rest', Jf0 n s' done rest') ∧ k ≠ (Juu (Jb7 done n) b).length ∨ ∃ rest', Jf0 n s' (done ++ [b]) rest') := by
 have hz := h.size
 have hlen := h.len
 have hok : okD (Ja8 s) = true := Jwk (by omega) (by omega)
 have run0 : Jo3 (Ja8 s) [] = (Ja8 s, (0, 0)) := Jiy (by omega) (by omega) []
 obtain ⟨i, r1, r2⟩ := Kyb h h1 h2 hb hr
 have full : k = (Juu (Jb7 done n) b).length → ∃ s' ch', Kkr (Ja8 s) (Juu (Jb7 done n) b) (k : Int) ch = (Ja8 s', (ch', 0)) ∧ ch'.length ≤ ch.length ∧ ((∃ rest', Jf0 n s' done rest') ∧ k ≠ (Juu (Jb7 done n) b).length ∨ ∃ rest', Jf0 n s' (done ++ [b]) rest') := fun e => by
  have hl2 := r2.len
  refine ⟨_, ch, ?_, Nat.le_refl _, .inr ⟨_, r2⟩⟩
  rw [J3d hok hk (by rw [e, List.take_length]; exact r1), Jok (by omega) (by omega)]
 have zero : k = 0 → k ≠ (Juu (Jb7 done n) b).length → ∃ s' ch', Kkr (Ja8 s) (Juu (Jb7 done n) b) (k : Int) ch = (Ja8 s', (ch', 0)) ∧ ch'.length ≤ ch.length ∧ ((∃ rest', Jf0 n s' done rest') ∧ k ≠ (Juu (Jb7 done n) b).length ∨ ∃ rest', Jf0 n s' (done ++ [b]) rest') := fun e hne => by
  refine ⟨s, ch, ?_, Nat.le_refl _, .inl ⟨⟨rest, h⟩, hne⟩⟩
  rw [J3d hok hk (by rw [e]; exact run0), Jok (by omega) (by omega)]
 -- a write that is pending
 have wr1 : ∀ (s1 : List Ja4) (a : Nat) (ps : List Ja4) (i : Int), a + ps.length ≤ s1.length → goD (Ja8 s1) [wrO a ps] i = ((s1, (wrS a ps, ())), (i + 1, 0)) := by
  intro s1 a ps i hle
  have hf : Kac (Ja8 s1) (a : Int) (ps.length : Int) = true := tt (by show (0 : Int) ≤ a ∧ (0 : Int) ≤ (ps.length : Int) ∧ (a : Int) + (ps.length : Int) ≤ (s1.length : Int); omega)
  have e1 : Jjg (Ja8 s1) (wrO a ps) = ((s1, (wrS a ps, ())), 0) := by
   show (if (0 : Int) = 0 then (if Kac (Ja8 s1) (a : Int) (ps.length : Int) then _ else _) else _) = _
   rw [if_pos rfl, hf]; rfl
  rw [goD, e1, if_pos rfl]; rfl
 have e0 : (Jb7 done n).1 = ((1 + (Jbw done 1).length : Nat) : Int) := by show 1 + ((Jbw done 1).length : Int) = _; omega
 have e0' : (Jb7 done n).1 + (Jas b.length : Int) = ((1 + (Jbw done 1).length + Jas b.length : Nat) : Int) := by rw [e0]; omega
 have e1 : ((Jb7 done n).2.1 + 1).toNat = done.length + 1 := by show ((done.length : Int) + 1).toNat = _; omega
 by_cases c : b = []
 ·subst c
  have ek : Juu (Jb7 done n) [] = [wrO ((Jb7 done n).1 + Jas ([] : Bys).length) [Jrt [] ((Jb7 done n).2.1 + 1).toNat], syO] := by unfold Juu; rw [if_pos rfl]; rfl
  have el : (Juu (Jb7 done n) []).length = 2 := by rw [ek]; rfl
  rw [el] at hk
  match k, hk with
  | 0, _ => exact zero rfl (by rw [el]; omega)
  | 2, _ => exact full el.symm
  | 1, _ =>
   have hrun : Jo3 (Ja8 s) ((Juu (Jb7 done n) []).take 1) = ((s, (wrS ((1 + (Jbw done 1).length + Jas ([] : Bys).length : Nat) : Int) [Jrt [] (done.length + 1)], ())), (0 + 1, 0)) := by
    rw [Jiy (by omega) (by omega), ek, e0', e1]
    exact wr1 s _ _ 0 (by show _ + 1 ≤ _; omega)
   obtain ⟨s', ch', g1, g2, g3, g4⟩ := Kce (s := s) (a := 1 + (Jbw done 1).length + Jas ([] : Bys).length) (ps := [Jrt [] (done.length + 1)]) (by show _ + 1 ≤ _; omega) (by omega) (by omega) ch
   refine ⟨s', ch', ?_, g2, ?_⟩
   ·rw [J3d hok (by rw [el]; omega) hrun, g1]
   ·rcases Kyg (b := []) h hb hr rfl g3 g4 with g | g
    ·exact .inl ⟨⟨_, g⟩, by rw [el]; omega⟩
    ·exact .inr ⟨_, g⟩
 ·have ek : Juu (Jb7 done n) b = [wrO (Jb7 done n).1 (Jcs b), syO, wrO ((Jb7 done n).1 + Jas b.length) [Jrt b ((Jb7 done n).2.1 + 1).toNat], syO] := by unfold Juu; rw [if_neg c]; rfl
  have el : (Juu (Jb7 done n) b).length = 4 := by rw [ek]; rfl
  rw [el] at hk
  -- the data are there
  have hlen2 : (Jd2 done (Jcs b ++ rest.drop (Jas b.length))).length = n := by
   simp only [Jd2, List.length_cons, List.length_append, Jcb, List.length_drop]; omega
  have h' : Jf0 n (Jd2 done (Jcs b ++ rest.drop (Jas b.length))) done (Jcs b ++ rest.drop (Jas b.length)) := by
   refine ⟨rfl, hlen2, h.short, ?_, J1m.2 ⟨Kmb b, Jsg h.pg _⟩⟩
   have : J55 (Jcs b ++ rest.drop (Jas b.length)) = (J55 (Jcs b) && J55 (rest.drop (Jas b.length))) := List.all_append
   rw [this, Jyi h.quiet, Bool.and_true]
   exact List.all_eq_true.2 fun p hp => tt (by have := Jky.1 (Jwm _ _ p hp).1; omega)
  match k, hk with
  | 0, _ => exact zero rfl (by rw [el]; omega)
  | 4, _ => exact full el.symm
  | 1, _ =>
   have hrun : Jo3 (Ja8 s) ((Juu (Jb7 done n) b).take 1) = ((s, (wrS ((1 + (Jbw done 1).length : Nat) : Int) (Jcs b), ())), (0 + 1, 0)) := by
    rw [Jiy (by omega) (by omega), ek, e0]
    exact wr1 s _ _ 0 (by rw [Jcb]; omega)
   obtain ⟨s', ch', g1, g2, g3, g4⟩ := Kce (s := s) (a := 1 + (Jbw done 1).length) (ps := Jcs b) (by rw [Jcb]; omega) (by omega) (by omega) ch
   refine ⟨s', ch', ?_, g2, .inl ⟨K2v (ps := Jcs b) h g3 (fun p hp => Jwm _ _ p hp) g4, by rw [el]; omega⟩⟩
   rw [J3d hok (by rw [el]; omega) hrun, g1]
  | 2, _ =>
   have hrun : Jo3 (Ja8 s) ((Juu (Jb7 done n) b).take 2) = (Ja8 (Jd2 done (Jcs b ++ rest.drop (Jas b.length))), (0 + 1 + 1, 0)) := by
    rw [Jiy (by omega) (by omega), ek]
    exact Kcd h hr [] 0
   refine ⟨_, ch, ?_, Nat.le_refl _, .inl ⟨⟨_, h'⟩, by rw [el]; omega⟩⟩
   rw [J3d hok (by rw [el]; omega) hrun, Jok (by omega) (by omega)]
  | 3, _ =>
   have hrun : Jo3 (Ja8 s) ((Juu (Jb7 done n) b).take 3) = ((Jd2 done (Jcs b ++ rest.drop (Jas b.length)), (wrS ((1 + (Jbw done 1).length + Jas b.length : Nat) : Int) [Jrt b (done.length + 1)], ())), (0 + 1 + 1 + 1, 0)) := by
    rw [Jiy (by omega) (by omega), ek]
    show goD (Ja8 s) (wrO (Jb7 done n).1 (Jcs b) :: syO :: [wrO ((Jb7 done n).1 + Jas b.length) [Jrt b ((Jb7 done n).2.1 + 1).toNat]]) 0 = _
    rw [Kcd h hr, e0', e1]
    exact wr1 _ _ _ _ (by show _ + 1 ≤ _; omega)
   obtain ⟨s', ch', g1, g2, g3, g4⟩ := Kce (s := Jd2 done (Jcs b ++ rest.drop (Jas b.length))) (a := 1 + (Jbw done 1).length + Jas b.length) (ps := [Jrt b (done.length + 1)]) (by show _ + 1 ≤ _; omega) (by omega) (by omega) ch
   refine ⟨s', ch', ?_, g2, ?_⟩
   ·rw [J3d hok (by rw [el]; omega) hrun, g1]
   ·rcases Kyg h' hb (by rw [List.length_append, Jcb, List.length_drop]; omega) (List.take_left' (Jcb b)) g3 g4 with g | g
    ·exact .inl ⟨⟨_, g⟩, by rw [el]; omega⟩
    ·exact .inr ⟨_, g⟩
theorem K2w (done : List Bys) (b : Bys) (n : Nat) : Jcu (.pair (.int .i64) (.pair (.int .i64) (.pair (.int .i64) .unit))) (Jb7 done n) (Jb7 (done ++ [b]) n) = false := by
 cases e : Jcu (.pair (.int .i64) (.pair (.int .i64) (.pair (.int .i64) .unit))) (Jb7 done n) (Jb7 (done ++ [b]) n) with
 | false => rfl
 | true =>
  have h := (Joe (.pair (.int .i64) (.pair (.int .i64) (.pair (.int .i64) .unit))) rfl _ _).1 e
  have h2 : (Jb7 done n).2.1 = (Jb7 (done ++ [b]) n).2.1 := congrArg (fun x : Jf5 => x.2.1) h
  have h3 : (done.length : Int) = ((done ++ [b]).length : Int) := h2
  rw [List.length_append, List.length_singleton] at h3
  omega
end Go.AI
