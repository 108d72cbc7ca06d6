/- Texts of the proof, joined: LogU. Names of our own are shortened by program; the long ones stand in wip/. -/
import Derived.Test.YtnmidfcefljafaaGreatQpLogT
namespace Go.AI
open Go
theorem K4u (a : Jf9) : Jct (.pair (.int .i64) (.pair (.int .i64) (.pair (.int .i64) .unit))) a a = true := (Jou (.pair (.int .i64) (.pair (.int .i64) (.pair (.int .i64) .unit))) rfl a a).2 rfl
theorem K0b (n : Nat) : J7b (List.replicate n z16) = true := List.all_eq_true.2 fun p hp => by rw [List.eq_of_mem_replicate hp]; decide
theorem K4v (n : Nat) : Jql (List.replicate n z16) = true := List.all_eq_true.2 fun p hp => by rw [List.eq_of_mem_replicate hp]; decide
theorem K0c (n : Nat) (h : 1 ≤ n) : Jf1 n (Jh2 :: List.replicate (n - 1) z16) [] (List.replicate (n - 1) z16) :=
 ⟨rfl, by rw [List.length_cons, List.length_replicate]; omega, (fun _ hx => nomatch hx), K0b _, K4v _⟩
theorem K0d {n : Nat} {s : List Ja4} {done : List Bys} {rest : List Ja4} (h : Jf1 n s done rest) (h1 : 2 ≤ n) (h2 : n ≤ 8192) {b : Bys} (hb : b.length ≤ 65536) (he : appE (Jck done n) b = 0) :
  Kts (Ja5 s) (K2k (Jck done n) b) = true ∧ K2k (Jck done n) b = Ju9 (Jck done n) b ∧ K7i (Jck done n) b = Jck (done ++ [b]) n ∧
  ∃ s' rest' i, Jn4 (Ja5 s) (K2k (Jck done n) b) = (Ja5 s', (i, 0)) ∧ Jf1 n s' (done ++ [b]) rest' := by
 have hr : Jau b.length + 1 ≤ rest.length := by
  rcases h.appE h1 h2 hb with ⟨_, c⟩ | ⟨c, _⟩
  ·exact c
  ·rw [he] at c; cases c
 have e : K2k (Jck done n) b = Ju9 (Jck done n) b := if_pos he
 have hs := K8y (Jck done n) b hb
 have hl := h.len
 obtain ⟨i, e1, e2⟩ := K0a h h1 h2 hb hr
 refine ⟨Juj.2 ⟨by show s.length ≤ _; omega, Nat.zero_le _, by rw [e]; omega, by rw [e]; omega⟩, e, ?_, _, _, i, by rw [e]; exact e1, e2⟩
 unfold K7i
 rw [if_pos he, K4t]
theorem Jf1.opP {n : Nat} {s : List Ja4} {done : List Bys} {rest : List Ja4} (h : Jf1 n s done rest) (h2 : n ≤ 8192) : Jeu (Ja5 s) = true := by
 have hl := h.len
 unfold Jeu Qad
 rw [show Jql (Ja5 s).1 = true from h.pg_all, Jdq.2 ⟨by show s.length ≤ _; omega, Nat.zero_le _⟩]; rfl
theorem K0e {α : Type} (l : List α) (i j : Nat) (v z : α) (h : j < l.length) : (l.set i v).getD j z = if i = j then v else l.getD j z := by
 rw [Jdx (by rw [List.length_set]; exact h), Jdx h, List.getElem_set]
theorem Ksh (d : DK) (n a : Nat) (ha : a < n) : ∀ (pl : List Int) (s : List Int × List Ja4), (∀ p, p ∈ pl → 0 ≤ p) → s.2.length = n → s.2.getD a z16 ∈ Kl2 d a → (pl.foldl (J3p d) s).2.getD a z16 ∈ Kl2 d a
 | [], _, _, _, h => h
 | p :: pl, s, hp, hs, h => by
  rw [List.foldl_cons]
  refine Ksh d n a ha pl _ (fun q hq => hp q (List.mem_cons_of_mem _ hq)) (by show (List.set _ _ _).length = _; rw [List.length_set]; exact hs) ?_
  show (List.set _ _ _).getD a z16 ∈ _
  have h0 := hp p (List.mem_cons_self ..)
  rw [K0e _ _ _ _ _ (by omega)]
  by_cases c : p.toNat = a
  ·have e : p = (a : Int) := by omega
   have hl := Kck d.1 d.2.1 (a : Int)
   have hd := Kgy s.1 (Kl2 d a).length (by rw [K3w]; exact hl.1)
   rw [if_pos c, e, Jdx (by omega)]
   exact List.getElem_mem _
  ·rw [if_neg c]; exact h
theorem Knp (s : List Ja4) : ∀ (ps : List Ja4) (a i : Nat) (p : Ja4), p ∈ ((wrS a ps).filter fun q => q.1 == (i : Int)).map (fun q => q.2.1) → a ≤ i ∧ i < a + ps.length ∧ p = ps.getD (i - a) z16
 | [], _, _, _, h => by cases h
 | q :: ps, a, i, p, h => by
  have e : wrS (a : Int) (q :: ps) = ((a : Int), (q, ())) :: wrS ((a + 1 : Nat) : Int) ps := by rw [wrS, Jte]
  rw [e] at h
  by_cases c : a = i
  ·subst c
   rw [List.filter_cons_of_pos (by simp)] at h
   rcases List.mem_cons.1 h with rfl | h
   ·exact ⟨Nat.le_refl _, by rw [List.length_cons]; omega, by rw [Nat.sub_self]; rfl⟩
   ·have := Knp s ps (a + 1) a p h
    omega
  ·rw [List.filter_cons_of_neg (by simp; omega)] at h
   obtain ⟨h1, h2, h3⟩ := Knp s ps (a + 1) i p h
   refine ⟨by omega, by rw [List.length_cons]; omega, ?_⟩
   rw [h3, show i - a = (i - (a + 1)) + 1 by omega]; rfl
theorem Kdn {s : List Ja4} {a : Nat} {ps : List Ja4} (h : a + ps.length ≤ s.length) (h1 : 1 ≤ s.length) (h2 : s.length ≤ 8192) (ch : List Int) :
  ∃ s' ch', Jtb (s, (wrS a ps, ())) ch = (Ja5 s', (ch', 0)) ∧ ch'.length ≤ ch.length ∧ s'.length = s.length ∧ ∀ i, i < s.length → s'.getD i z16 = s.getD i z16 ∨ (a ≤ i ∧ i < a + ps.length ∧ s'.getD i z16 = ps.getD (i - a) z16) := by
 have hok : okD (s, (wrS a ps, ())) = true := Jot.2 ⟨⟨h1, h2⟩, K6e ps a _ h⟩
 have hf := Kcl (s, (wrS a ps, ())) (Jhn (wrS a ps) []) (ch, s)
 refine ⟨(K97 (s, (wrS a ps, ())) ch).2, (K97 (s, (wrS a ps, ())) ch).1, ?_, hf.1, hf.2, fun i hi => ?_⟩
 ·unfold Jtb; rw [if_pos hok]; rfl
 ·have hm : (K97 (s, (wrS a ps, ())) ch).2.getD i z16 ∈ Kl2 (s, (wrS a ps, ())) i :=
   Ksh (s, (wrS a ps, ())) s.length i hi _ (ch, s) (fun p hp => (K5w (Jot.1 hok).2 (Jso _ [] p hp)).1) rfl (by
    show s.getD i z16 ∈ _ :: _
    rw [Int.toNat_natCast]; exact List.mem_cons_self)
  rcases List.mem_cons.1 hm with hm | hm
  ·rw [Int.toNat_natCast] at hm; exact .inl hm
  ·exact .inr (Knp s ps a i _ hm)
theorem Jo1 {s : List Ja4} (h1 : 1 ≤ s.length) (h2 : s.length ≤ 8192) (ch : List Int) : Jtb (Ja5 s) ch = (Ja5 s, (ch, 0)) := by
 unfold Jtb
 rw [if_pos (Jwx h1 h2)]; rfl
theorem J4e {d d' : DK} {l : List DOp} {k : Nat} {i : Int} {ch : List Int} (hd : okD d = true) (hk : k ≤ l.length) (hr : Jn4 d (l.take k) = (d', (i, 0))) : Kvw d l (k : Int) ch = Jtb d' ch := by
 unfold Kvw
 rw [if_pos hd, if_pos (by omega), Int.toNat_natCast, hr, if_pos rfl]
theorem K4w {n : Nat} {s s' : List Ja4} {done : List Bys} {rest ps : List Ja4} (h : Jf1 n s done rest) (hl : s'.length = s.length) (hps : ∀ p, p ∈ ps → Jet p = true ∧ p.length = 16)
  (hs : ∀ i, i < s.length → s'.getD i z16 = s.getD i z16 ∨ (1 + (Jb1 done 1).length ≤ i ∧ i < 1 + (Jb1 done 1).length + ps.length ∧ s'.getD i z16 = ps.getD (i - (1 + (Jb1 done 1).length)) z16)) :
  ∃ rest', Jf1 n s' done rest' := by
 have hz := h.size
 have hlen := h.len
 refine ⟨s'.drop (1 + (Jb1 done 1).length), ?_, by omega, h.short, ?_, ?_⟩
 ·have e : s'.take (1 + (Jb1 done 1).length) = Jh2 :: Jb1 done 1 := by
   apply List.ext_getElem
   ·rw [List.length_take, List.length_cons]; omega
   intro i hi1 hi2
   rw [List.length_cons] at hi2
   have hi3 : i < s.length := by omega
   rcases hs i hi3 with e | ⟨e, _, _⟩
   ·rw [List.getElem_take, ← Jdx (d := z16) (show i < s'.length by omega), e, h.eq]
    have : Jd5 done rest = (Jh2 :: Jb1 done 1) ++ rest := rfl
    rw [this, List.getD, List.getElem?_append_left (by rw [List.length_cons]; omega), List.getElem?_eq_getElem (by rw [List.length_cons]; omega)]; rfl
   ·omega
  have := List.take_append_drop (1 + (Jb1 done 1).length) s'
  rw [e] at this
  exact this.symm
 all_goals
  refine List.all_eq_true.2 fun p hp => ?_
  obtain ⟨j, hj, rfl⟩ := List.getElem_of_mem hp
  rw [List.length_drop] at hj
  rw [List.getElem_drop, ← Jdx (d := z16) (show 1 + (Jb1 done 1).length + j < s'.length by omega)]
  have hrj : j < rest.length := by omega
  have hsr : s.getD (1 + (Jb1 done 1).length + j) z16 = rest[j] := by
   have : Jd5 done rest = (Jh2 :: Jb1 done 1) ++ rest := rfl
   rw [h.eq, this, List.getD, List.getElem?_append_right (by rw [List.length_cons]; omega), List.length_cons, show 1 + (Jb1 done 1).length + j - ((Jb1 done 1).length + 1) = j by omega, List.getElem?_eq_getElem hrj]; rfl
  rcases hs (1 + (Jb1 done 1).length + j) (by omega) with e | ⟨_, e2, e⟩
  ·rw [e, hsr]
   first | exact List.all_eq_true.1 h.quiet _ (List.getElem_mem _) | exact List.all_eq_true.1 h.pg _ (List.getElem_mem _)
  ·have hj2 : j < ps.length := by omega
   rw [e, show 1 + (Jb1 done 1).length + j - (1 + (Jb1 done 1).length) = j by omega, Jdx hj2]
   obtain ⟨g1, g2⟩ := hps _ (List.getElem_mem hj2)
   first | exact tt g2 | exact tt (by have := Jk5.1 g1; omega)
theorem K0f {n : Nat} {s s' : List Ja4} {done : List Bys} {rest : List Ja4} {b : Bys} (h : Jf1 n s done rest) (hb : b.length ≤ 65536) (hr : Jau b.length + 1 ≤ rest.length) (hd : rest.take (Jau b.length) = Jcw b) (hl : s'.length = s.length)
  (hs : ∀ i, i < s.length → s'.getD i z16 = s.getD i z16 ∨ (1 + (Jb1 done 1).length + Jau b.length ≤ i ∧ i < 1 + (Jb1 done 1).length + Jau b.length + 1 ∧ s'.getD i z16 = ([Jr7 b (done.length + 1)] : List Ja4).getD (i - (1 + (Jb1 done 1).length + Jau b.length)) z16)) :
  Jf1 n s' done rest ∨ Jf1 n s' (done ++ [b]) (rest.drop (Jau b.length + 1)) := by
 have hz := h.size
 have hlen := h.len
 by_cases c : s'.getD (1 + (Jb1 done 1).length + Jau b.length) z16 = s.getD (1 + (Jb1 done 1).length + Jau b.length) z16
 ·left
  have e : s' = s := by
   apply List.ext_getElem hl
   intro i hi1 hi2
   rw [← Jdx (d := z16) hi1, ← Jdx (d := z16) hi2]
   rcases hs i hi2 with e | ⟨e1, e2, _⟩
   ·exact e
   ·obtain rfl : i = 1 + (Jb1 done 1).length + Jau b.length := by omega
    exact c
  rw [e]; exact h
 ·right
  have hc : s'.getD (1 + (Jb1 done 1).length + Jau b.length) z16 = Jr7 b (done.length + 1) := by
   rcases hs (1 + (Jb1 done 1).length + Jau b.length) (by omega) with e | ⟨_, _, e⟩
   ·exact absurd e c
   ·rw [e, Nat.sub_self]; rfl
  have e : s' = s.set (1 + (Jb1 done 1).length + Jau b.length) (Jr7 b (done.length + 1)) := by
   apply List.ext_getElem (by rw [List.length_set]; exact hl)
   intro i hi1 hi2
   rw [List.length_set] at hi2
   rw [← Jdx (d := z16) hi1, List.getElem_set]
   by_cases ci : 1 + (Jb1 done 1).length + Jau b.length = i
   ·subst ci; rw [if_pos rfl, hc]
   ·rw [if_neg ci, ← Jdx (d := z16) hi2]
    rcases hs i hi2 with e | ⟨e1, e2, _⟩
    ·exact e
    ·omega
  have e2 : s' = Jd5 (done ++ [b]) (rest.drop (Jau b.length + 1)) := by
   have hh : Jd5 done rest = (Jh2 :: Jb1 done 1) ++ rest := rfl
   rw [e, h.eq, Jo0, hh, List.set_append_right _ _ (by rw [List.length_cons]; omega), List.length_cons, show 1 + (Jb1 done 1).length + Jau b.length - ((Jb1 done 1).length + 1) = Jau b.length by omega]
   have hrest : rest.set (Jau b.length) (Jr7 b (done.length + 1)) = blk b (done.length + 1) ++ rest.drop (Jau b.length + 1) := by
    unfold blk
    rw [← hd, List.append_assoc]
    have h3 := List.take_append_drop (Jau b.length) rest
    have h4 : rest.drop (Jau b.length) = rest.getD (Jau b.length) z16 :: rest.drop (Jau b.length + 1) := Jcx z16 (by omega)
    have h5 : rest = rest.take (Jau b.length) ++ rest.getD (Jau b.length) z16 :: rest.drop (Jau b.length + 1) := by rw [← h4, h3]
    have hlt : (rest.take (Jau b.length)).length = Jau b.length := by rw [List.length_take]; omega
    have h6 : (rest.take (Jau b.length) ++ rest.getD (Jau b.length) z16 :: rest.drop (Jau b.length + 1)).set (Jau b.length) (Jr7 b (done.length + 1)) = rest.take (Jau b.length) ++ (Jr7 b (done.length + 1) :: rest.drop (Jau b.length + 1)) := by
     rw [List.set_append_right _ _ (by omega), hlt, Nat.sub_self]; rfl
    rw [← h5] at h6
    exact h6
   rw [hrest]; rfl
  refine ⟨e2, by omega, ?_, Jyw h.quiet _, Jsu h.pg _⟩
  intro x hx
  rcases List.mem_append.1 hx with hx | hx
  ·exact h.short x hx
  ·rw [List.mem_singleton.1 hx]; exact hb
theorem K8z {n : Nat} {s : List Ja4} {done : List Bys} {rest : List Ja4} (h : Jf1 n s done rest) (h1 : 2 ≤ n) (h2 : n ≤ 8192) {b : Bys} (hb : b.length ≤ 65536) (hr : Jau b.length + 1 ≤ rest.length) (k : Nat) (hk : k ≤ (Ju9 (Jck done n) b).length) (ch : List Int) :
  ∃ s' ch', Kvw (Ja5 s) (Ju9 (Jck done n) b) (k : Int) ch = (Ja5 s', (ch', 0)) ∧ ch'.length ≤ ch.length ∧ ((∃ rest', Jf1 n s' done rest') ∧ k ≠ (Ju9 (Jck done n) b).length ∨ ∃ rest', Jf1 n s' (done ++ [b]) rest') := by
 have hz := h.size
 have hlen := h.len
 have hok : okD (Ja5 s) = true := Jwx (by omega) (by omega)
 have run0 : Jn4 (Ja5 s) [] = (Ja5 s, (0, 0)) := Ji3 (by omega) (by omega) []
 obtain ⟨i, r1, r2⟩ := K0a h h1 h2 hb hr
 have full : k = (Ju9 (Jck done n) b).length → ∃ s' ch', Kvw (Ja5 s) (Ju9 (Jck done n) b) (k : Int) ch = (Ja5 s', (ch', 0)) ∧ ch'.length ≤ ch.length ∧ ((∃ rest', Jf1 n s' done rest') ∧ k ≠ (Ju9 (Jck done n) b).length ∨ ∃ rest', Jf1 n s' (done ++ [b]) rest') := fun e => by
  have hl2 := r2.len
  refine ⟨_, ch, ?_, Nat.le_refl _, .inr ⟨_, r2⟩⟩
  rw [J4e hok hk (by rw [e, List.take_length]; exact r1), Jo1 (by omega) (by omega)]
 have zero : k = 0 → k ≠ (Ju9 (Jck done n) b).length → ∃ s' ch', Kvw (Ja5 s) (Ju9 (Jck done n) b) (k : Int) ch = (Ja5 s', (ch', 0)) ∧ ch'.length ≤ ch.length ∧ ((∃ rest', Jf1 n s' done rest') ∧ k ≠ (Ju9 (Jck done n) b).length ∨ ∃ rest', Jf1 n s' (done ++ [b]) rest') := fun e hne => by
  refine ⟨s, ch, ?_, Nat.le_refl _, .inl ⟨⟨rest, h⟩, hne⟩⟩
  rw [J4e hok hk (by rw [e]; exact run0), Jo1 (by omega) (by omega)]
 -- a write that is pending
 have wr1 : ∀ (s1 : List Ja4) (a : Nat) (ps : List Ja4) (i : Int), a + ps.length ≤ s1.length → goD (Ja5 s1) [wrO a ps] i = ((s1, (wrS a ps, ())), (i + 1, 0)) := by
  intro s1 a ps i hle
  have hf : Kbm (Ja5 s1) (a : Int) (ps.length : Int) = true := tt (by show (0 : Int) ≤ a ∧ (0 : Int) ≤ (ps.length : Int) ∧ (a : Int) + (ps.length : Int) ≤ (s1.length : Int); omega)
  have e1 : Jjo (Ja5 s1) (wrO a ps) = ((s1, (wrS a ps, ())), 0) := by
   show (if (0 : Int) = 0 then (if Kbm (Ja5 s1) (a : Int) (ps.length : Int) then _ else _) else _) = _
   rw [if_pos rfl, hf]; rfl
  rw [goD, e1, if_pos rfl]; rfl
 have e0 : (Jck done n).1 = ((1 + (Jb1 done 1).length : Nat) : Int) := by show 1 + ((Jb1 done 1).length : Int) = _; omega
 have e0' : (Jck done n).1 + (Jau b.length : Int) = ((1 + (Jb1 done 1).length + Jau b.length : Nat) : Int) := by rw [e0]; omega
 have e1 : ((Jck done n).2.1 + 1).toNat = done.length + 1 := by show ((done.length : Int) + 1).toNat = _; omega
 by_cases c : b = []
 ·subst c
  have ek : Ju9 (Jck done n) [] = [wrO ((Jck done n).1 + Jau ([] : Bys).length) [Jr7 [] ((Jck done n).2.1 + 1).toNat], syO] := by unfold Ju9; rw [if_pos rfl]; rfl
  have el : (Ju9 (Jck done n) []).length = 2 := by rw [ek]; rfl
  rw [el] at hk
  match k, hk with
  | 0, _ => exact zero rfl (by rw [el]; omega)
  | 2, _ => exact full el.symm
  | 1, _ =>
   have hrun : Jn4 (Ja5 s) ((Ju9 (Jck done n) []).take 1) = ((s, (wrS ((1 + (Jb1 done 1).length + Jau ([] : Bys).length : Nat) : Int) [Jr7 [] (done.length + 1)], ())), (0 + 1, 0)) := by
    rw [Ji3 (by omega) (by omega), ek, e0', e1]
    exact wr1 s _ _ 0 (by show _ + 1 ≤ _; omega)
   obtain ⟨s', ch', g1, g2, g3, g4⟩ := Kdn (s := s) (a := 1 + (Jb1 done 1).length + Jau ([] : Bys).length) (ps := [Jr7 [] (done.length + 1)]) (by show _ + 1 ≤ _; omega) (by omega) (by omega) ch
   refine ⟨s', ch', ?_, g2, ?_⟩
   ·rw [J4e hok (by rw [el]; omega) hrun, g1]
   ·rcases K0f (b := []) h hb hr rfl g3 g4 with g | g
    ·exact .inl ⟨⟨_, g⟩, by rw [el]; omega⟩
    ·exact .inr ⟨_, g⟩
 ·have ek : Ju9 (Jck done n) b = [wrO (Jck done n).1 (Jcw b), syO, wrO ((Jck done n).1 + Jau b.length) [Jr7 b ((Jck done n).2.1 + 1).toNat], syO] := by unfold Ju9; rw [if_neg c]; rfl
  have el : (Ju9 (Jck done n) b).length = 4 := by rw [ek]; rfl
  rw [el] at hk
  -- the data are there
  have hlen2 : (Jd5 done (Jcw b ++ rest.drop (Jau b.length))).length = n := by
   simp only [Jd5, List.length_cons, List.length_append, Jcc, List.length_drop]; omega
  have h' : Jf1 n (Jd5 done (Jcw b ++ rest.drop (Jau b.length))) done (Jcw b ++ rest.drop (Jau b.length)) := by
   refine ⟨rfl, hlen2, h.short, ?_, J2h.2 ⟨Kno b, Jsu h.pg _⟩⟩
   have : J7b (Jcw b ++ rest.drop (Jau b.length)) = (J7b (Jcw b) && J7b (rest.drop (Jau b.length))) := List.all_append
   rw [this, Jyw h.quiet, Bool.and_true]
   exact List.all_eq_true.2 fun p hp => tt (by have := Jk5.1 (Jwz _ _ p hp).1; omega)
  match k, hk with
  | 0, _ => exact zero rfl (by rw [el]; omega)
  | 4, _ => exact full el.symm
  | 1, _ =>
   have hrun : Jn4 (Ja5 s) ((Ju9 (Jck done n) b).take 1) = ((s, (wrS ((1 + (Jb1 done 1).length : Nat) : Int) (Jcw b), ())), (0 + 1, 0)) := by
    rw [Ji3 (by omega) (by omega), ek, e0]
    exact wr1 s _ _ 0 (by rw [Jcc]; omega)
   obtain ⟨s', ch', g1, g2, g3, g4⟩ := Kdn (s := s) (a := 1 + (Jb1 done 1).length) (ps := Jcw b) (by rw [Jcc]; omega) (by omega) (by omega) ch
   refine ⟨s', ch', ?_, g2, .inl ⟨K4w (ps := Jcw b) h g3 (fun p hp => Jwz _ _ p hp) g4, by rw [el]; omega⟩⟩
   rw [J4e hok (by rw [el]; omega) hrun, g1]
  | 2, _ =>
   have hrun : Jn4 (Ja5 s) ((Ju9 (Jck done n) b).take 2) = (Ja5 (Jd5 done (Jcw b ++ rest.drop (Jau b.length))), (0 + 1 + 1, 0)) := by
    rw [Ji3 (by omega) (by omega), ek]
    exact Kdm h hr [] 0
   refine ⟨_, ch, ?_, Nat.le_refl _, .inl ⟨⟨_, h'⟩, by rw [el]; omega⟩⟩
   rw [J4e hok (by rw [el]; omega) hrun, Jo1 (by omega) (by omega)]
  | 3, _ =>
   have hrun : Jn4 (Ja5 s) ((Ju9 (Jck done n) b).take 3) = ((Jd5 done (Jcw b ++ rest.drop (Jau b.length)), (wrS ((1 + (Jb1 done 1).length + Jau b.length : Nat) : Int) [Jr7 b (done.length + 1)], ())), (0 + 1 + 1 + 1, 0)) := by
    rw [Ji3 (by omega) (by omega), ek]
    show goD (Ja5 s) (wrO (Jck done n).1 (Jcw b) :: syO :: [wrO ((Jck done n).1 + Jau b.length) [Jr7 b ((Jck done n).2.1 + 1).toNat]]) 0 = _
    rw [Kdm h hr, e0', e1]
    exact wr1 _ _ _ _ (by show _ + 1 ≤ _; omega)
   obtain ⟨s', ch', g1, g2, g3, g4⟩ := Kdn (s := Jd5 done (Jcw b ++ rest.drop (Jau b.length))) (a := 1 + (Jb1 done 1).length + Jau b.length) (ps := [Jr7 b (done.length + 1)]) (by show _ + 1 ≤ _; omega) (by omega) (by omega) ch
   refine ⟨s', ch', ?_, g2, ?_⟩
   ·rw [J4e hok (by rw [el]; omega) hrun, g1]
   ·rcases K0f h' hb (by rw [List.length_append, Jcc, List.length_drop]; omega) (List.take_left' (Jcc b)) g3 g4 with g | g
    ·exact .inl ⟨⟨_, g⟩, by rw [el]; omega⟩
    ·exact .inr ⟨_, g⟩
end Go.AI
