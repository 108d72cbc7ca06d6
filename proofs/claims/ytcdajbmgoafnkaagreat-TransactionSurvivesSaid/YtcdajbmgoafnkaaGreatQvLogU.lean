/- Texts of the proof, joined: LogU. Names of our own are shortened by program; the long ones stand in wip/. -/
import Derived.Test.YtcdajbmgoafnkaaGreatQvLogT
namespace Go.AI
open Go
theorem K39 (a : Jfp) : Jdc (.pair (.int .i64) (.pair (.int .i64) (.pair (.int .i64) .unit))) a a = true := (Jss (.pair (.int .i64) (.pair (.int .i64) (.pair (.int .i64) .unit))) rfl a a).2 rfl
theorem Kzf (n : Nat) : J60 (List.replicate n z16) = true := List.all_eq_true.2 fun p hp => by rw [List.eq_of_mem_replicate hp]; decide
theorem K4a (n : Nat) : Jqr (List.replicate n z16) = true := List.all_eq_true.2 fun p hp => by rw [List.eq_of_mem_replicate hp]; decide
theorem Kzg (n : Nat) (h : 1 ≤ n) : Jgc n (Jhr :: List.replicate (n - 1) z16) [] (List.replicate (n - 1) z16) :=
 ⟨rfl, by rw [List.length_cons, List.length_replicate]; omega, (fun _ hx => nomatch hx), Kzf _, K4a _⟩
theorem Kzh {n : Nat} {s : List Jbe} {done : List Bys} {rest : List Jbe} (h : Jgc n s done rest) (h1 : 2 ≤ n) (h2 : n ≤ 8192) {b : Bys} (hb : b.length ≤ 65536) (he : appE (Jcv done n) b = 0) :
  Kw5 (Jbp s) (Ku0 (Jcv done n) b) = true ∧ Ku0 (Jcv done n) b = Juo (Jcv done n) b ∧ K49 (Jcv done n) b = Jcv (done ++ [b]) n ∧
  ∃ s' rest' i, Jpp (Jbp s) (Ku0 (Jcv done n) b) = (Jbp s', (i, 0)) ∧ Jgc n s' (done ++ [b]) rest' := by
 have hr : Jaq b.length + 1 ≤ rest.length := by
  rcases h.appE h1 h2 hb with ⟨_, c⟩ | ⟨c, _⟩
  ·exact c
  ·rw [he] at c; cases c
 have e : Ku0 (Jcv done n) b = Juo (Jcv done n) b := if_pos he
 have hs := K8e (Jcv done n) b hb
 have hl := h.len
 obtain ⟨i, e1, e2⟩ := Kze h h1 h2 hb hr
 refine ⟨Juv.2 ⟨by show s.length ≤ _; omega, Nat.zero_le _, by rw [e]; omega, by rw [e]; omega⟩, e, ?_, _, _, i, by rw [e]; exact e1, e2⟩
 unfold K49
 rw [if_pos he, K38]
theorem Jgc.opP {n : Nat} {s : List Jbe} {done : List Bys} {rest : List Jbe} (h : Jgc n s done rest) (h2 : n ≤ 8192) : Jjl (Jbp s) = true := by
 have hl := h.len
 unfold Jjl K9r
 rw [show Jqr (Jbp s).1 = true from h.pg_all, Jez.2 ⟨by show s.length ≤ _; omega, Nat.zero_le _⟩]; rfl
theorem Kzi {α : Type} (l : List α) (i j : Nat) (v z : α) (h : j < l.length) : (l.set i v).getD j z = if i = j then v else l.getD j z := by
 rw [Jdw (by rw [List.length_set]; exact h), Jdw h, List.getElem_set]
theorem Krh (d : DK) (n a : Nat) (ha : a < n) : ∀ (pl : List Int) (s : List Int × List Jbe), (∀ p, p ∈ pl → 0 ≤ p) → s.2.length = n → s.2.getD a z16 ∈ Klg d a → (pl.foldl (J3g d) s).2.getD a z16 ∈ Klg d a
 | [], _, _, _, h => h
 | p :: pl, s, hp, hs, h => by
  rw [List.foldl_cons]
  refine Krh d n a ha pl _ (fun q hq => hp q (List.mem_cons_of_mem _ hq)) (by show (List.set _ _ _).length = _; rw [List.length_set]; exact hs) ?_
  show (List.set _ _ _).getD a z16 ∈ _
  have h0 := hp p (List.mem_cons_self ..)
  rw [Kzi _ _ _ _ _ (by omega)]
  by_cases c : p.toNat = a
  ·have e : p = (a : Int) := by omega
   have hl := Kb6 d.1 d.2.1 (a : Int)
   have hd := Kgi s.1 (Klg d a).length (by rw [K29]; exact hl.1)
   rw [if_pos c, e, Jdw (by omega)]
   exact List.getElem_mem _
  ·rw [if_neg c]; exact h
theorem Kmz (s : List Jbe) : ∀ (ps : List Jbe) (a i : Nat) (p : Jbe), p ∈ ((wrS a ps).filter fun q => q.1 == (i : Int)).map (fun q => q.2.1) → a ≤ i ∧ i < a + ps.length ∧ p = ps.getD (i - a) z16
 | [], _, _, _, h => by cases h
 | q :: ps, a, i, p, h => by
  have e : wrS (a : Int) (q :: ps) = ((a : Int), (q, ())) :: wrS ((a + 1 : Nat) : Int) ps := by rw [wrS, Juu]
  rw [e] at h
  by_cases c : a = i
  ·subst c
   rw [List.filter_cons_of_pos (by simp)] at h
   rcases List.mem_cons.1 h with rfl | h
   ·exact ⟨Nat.le_refl _, by rw [List.length_cons]; omega, by rw [Nat.sub_self]; rfl⟩
   ·have := Kmz s ps (a + 1) a p h
    omega
  ·rw [List.filter_cons_of_neg (by simp; omega)] at h
   obtain ⟨h1, h2, h3⟩ := Kmz s ps (a + 1) i p h
   refine ⟨by omega, by rw [List.length_cons]; omega, ?_⟩
   rw [h3, show i - a = (i - (a + 1)) + 1 by omega]; rfl
theorem Kc8 {s : List Jbe} {a : Nat} {ps : List Jbe} (h : a + ps.length ≤ s.length) (h1 : 1 ≤ s.length) (h2 : s.length ≤ 8192) (ch : List Int) :
  ∃ s' ch', Jti (s, (wrS a ps, ())) ch = (Jbp s', (ch', 0)) ∧ ch'.length ≤ ch.length ∧ s'.length = s.length ∧ ∀ i, i < s.length → s'.getD i z16 = s.getD i z16 ∨ (a ≤ i ∧ i < a + ps.length ∧ s'.getD i z16 = ps.getD (i - a) z16) := by
 have hok : okD (s, (wrS a ps, ())) = true := Joy.2 ⟨⟨h1, h2⟩, K5z ps a _ h⟩
 have hf := Kb7 (s, (wrS a ps, ())) (Jhx (wrS a ps) []) (ch, s)
 refine ⟨(K9k (s, (wrS a ps, ())) ch).2, (K9k (s, (wrS a ps, ())) ch).1, ?_, hf.1, hf.2, fun i hi => ?_⟩
 ·unfold Jti; rw [if_pos hok]; rfl
 ·have hm : (K9k (s, (wrS a ps, ())) ch).2.getD i z16 ∈ Klg (s, (wrS a ps, ())) i :=
   Krh (s, (wrS a ps, ())) s.length i hi _ (ch, s) (fun p hp => (K5h (Joy.1 hok).2 (Jsu _ [] p hp)).1) rfl (by
    show s.getD i z16 ∈ _ :: _
    rw [Int.toNat_natCast]; exact List.mem_cons_self)
  rcases List.mem_cons.1 hm with hm | hm
  ·rw [Int.toNat_natCast] at hm; exact .inl hm
  ·exact .inr (Kmz s ps a i _ hm)
theorem Jo4 {s : List Jbe} (h1 : 1 ≤ s.length) (h2 : s.length ≤ 8192) (ch : List Int) : Jti (Jbp s) ch = (Jbp s, (ch, 0)) := by
 unfold Jti
 rw [if_pos (Jw2 h1 h2)]; rfl
theorem J33 {d d' : DK} {l : List DOp} {k : Nat} {i : Int} {ch : List Int} (hd : okD d = true) (hk : k ≤ l.length) (hr : Jpp d (l.take k) = (d', (i, 0))) : Kst d l (k : Int) ch = Jti d' ch := by
 unfold Kst
 rw [if_pos hd, if_pos (by omega), Int.toNat_natCast, hr, if_pos rfl]
theorem K4b {n : Nat} {s s' : List Jbe} {done : List Bys} {rest ps : List Jbe} (h : Jgc n s done rest) (hl : s'.length = s.length) (hps : ∀ p, p ∈ ps → Je5 p = true ∧ p.length = 16)
  (hs : ∀ i, i < s.length → s'.getD i z16 = s.getD i z16 ∨ (1 + (Jb7 done 1).length ≤ i ∧ i < 1 + (Jb7 done 1).length + ps.length ∧ s'.getD i z16 = ps.getD (i - (1 + (Jb7 done 1).length)) z16)) :
  ∃ rest', Jgc n s' done rest' := by
 have hz := h.size
 have hlen := h.len
 refine ⟨s'.drop (1 + (Jb7 done 1).length), ?_, by omega, h.short, ?_, ?_⟩
 ·have e : s'.take (1 + (Jb7 done 1).length) = Jhr :: Jb7 done 1 := by
   apply List.ext_getElem
   ·rw [List.length_take, List.length_cons]; omega
   intro i hi1 hi2
   rw [List.length_cons] at hi2
   have hi3 : i < s.length := by omega
   rcases hs i hi3 with e | ⟨e, _, _⟩
   ·rw [List.getElem_take, ← Jdw (d := z16) (show i < s'.length by omega), e, h.eq]
    have : Jeh done rest = (Jhr :: Jb7 done 1) ++ rest := rfl
    rw [this, List.getD, List.getElem?_append_left (by rw [List.length_cons]; omega), List.getElem?_eq_getElem (by rw [List.length_cons]; omega)]; rfl
   ·omega
  have := List.take_append_drop (1 + (Jb7 done 1).length) s'
  rw [e] at this
  exact this.symm
 all_goals
  refine List.all_eq_true.2 fun p hp => ?_
  obtain ⟨j, hj, rfl⟩ := List.getElem_of_mem hp
  rw [List.length_drop] at hj
  rw [List.getElem_drop, ← Jdw (d := z16) (show 1 + (Jb7 done 1).length + j < s'.length by omega)]
  have hrj : j < rest.length := by omega
  have hsr : s.getD (1 + (Jb7 done 1).length + j) z16 = rest[j] := by
   have : Jeh done rest = (Jhr :: Jb7 done 1) ++ rest := rfl
   rw [h.eq, this, List.getD, List.getElem?_append_right (by rw [List.length_cons]; omega), List.length_cons, show 1 + (Jb7 done 1).length + j - ((Jb7 done 1).length + 1) = j by omega, List.getElem?_eq_getElem hrj]; rfl
  rcases hs (1 + (Jb7 done 1).length + j) (by omega) with e | ⟨_, e2, e⟩
  ·rw [e, hsr]
   first | exact List.all_eq_true.1 h.quiet _ (List.getElem_mem _) | exact List.all_eq_true.1 h.pg _ (List.getElem_mem _)
  ·have hj2 : j < ps.length := by omega
   rw [e, show 1 + (Jb7 done 1).length + j - (1 + (Jb7 done 1).length) = j by omega, Jdw hj2]
   obtain ⟨g1, g2⟩ := hps _ (List.getElem_mem hj2)
   first | exact tt g2 | exact tt (by have := Jlf.1 g1; omega)
theorem Kzj {n : Nat} {s s' : List Jbe} {done : List Bys} {rest : List Jbe} {b : Bys} (h : Jgc n s done rest) (hb : b.length ≤ 65536) (hr : Jaq b.length + 1 ≤ rest.length) (hd : rest.take (Jaq b.length) = Jc0 b) (hl : s'.length = s.length)
  (hs : ∀ i, i < s.length → s'.getD i z16 = s.getD i z16 ∨ (1 + (Jb7 done 1).length + Jaq b.length ≤ i ∧ i < 1 + (Jb7 done 1).length + Jaq b.length + 1 ∧ s'.getD i z16 = ([Jsd b (done.length + 1)] : List Jbe).getD (i - (1 + (Jb7 done 1).length + Jaq b.length)) z16)) :
  Jgc n s' done rest ∨ Jgc n s' (done ++ [b]) (rest.drop (Jaq b.length + 1)) := by
 have hz := h.size
 have hlen := h.len
 by_cases c : s'.getD (1 + (Jb7 done 1).length + Jaq b.length) z16 = s.getD (1 + (Jb7 done 1).length + Jaq b.length) z16
 ·left
  have e : s' = s := by
   apply List.ext_getElem hl
   intro i hi1 hi2
   rw [← Jdw (d := z16) hi1, ← Jdw (d := z16) hi2]
   rcases hs i hi2 with e | ⟨e1, e2, _⟩
   ·exact e
   ·obtain rfl : i = 1 + (Jb7 done 1).length + Jaq b.length := by omega
    exact c
  rw [e]; exact h
 ·right
  have hc : s'.getD (1 + (Jb7 done 1).length + Jaq b.length) z16 = Jsd b (done.length + 1) := by
   rcases hs (1 + (Jb7 done 1).length + Jaq b.length) (by omega) with e | ⟨_, _, e⟩
   ·exact absurd e c
   ·rw [e, Nat.sub_self]; rfl
  have e : s' = s.set (1 + (Jb7 done 1).length + Jaq b.length) (Jsd b (done.length + 1)) := by
   apply List.ext_getElem (by rw [List.length_set]; exact hl)
   intro i hi1 hi2
   rw [List.length_set] at hi2
   rw [← Jdw (d := z16) hi1, List.getElem_set]
   by_cases ci : 1 + (Jb7 done 1).length + Jaq b.length = i
   ·subst ci; rw [if_pos rfl, hc]
   ·rw [if_neg ci, ← Jdw (d := z16) hi2]
    rcases hs i hi2 with e | ⟨e1, e2, _⟩
    ·exact e
    ·omega
  have e2 : s' = Jeh (done ++ [b]) (rest.drop (Jaq b.length + 1)) := by
   have hh : Jeh done rest = (Jhr :: Jb7 done 1) ++ rest := rfl
   rw [e, h.eq, Jo3, hh, List.set_append_right _ _ (by rw [List.length_cons]; omega), List.length_cons, show 1 + (Jb7 done 1).length + Jaq b.length - ((Jb7 done 1).length + 1) = Jaq b.length by omega]
   have hrest : rest.set (Jaq b.length) (Jsd b (done.length + 1)) = blk b (done.length + 1) ++ rest.drop (Jaq b.length + 1) := by
    unfold blk
    rw [← hd, List.append_assoc]
    have h3 := List.take_append_drop (Jaq b.length) rest
    have h4 : rest.drop (Jaq b.length) = rest.getD (Jaq b.length) z16 :: rest.drop (Jaq b.length + 1) := Jcu z16 (by omega)
    have h5 : rest = rest.take (Jaq b.length) ++ rest.getD (Jaq b.length) z16 :: rest.drop (Jaq b.length + 1) := by rw [← h4, h3]
    have hlt : (rest.take (Jaq b.length)).length = Jaq b.length := by rw [List.length_take]; omega
    have h6 : (rest.take (Jaq b.length) ++ rest.getD (Jaq b.length) z16 :: rest.drop (Jaq b.length + 1)).set (Jaq b.length) (Jsd b (done.length + 1)) = rest.take (Jaq b.length) ++ (Jsd b (done.length + 1) :: rest.drop (Jaq b.length + 1)) := by
     rw [List.set_append_right _ _ (by omega), hlt, Nat.sub_self]; rfl
    rw [← h5] at h6
    exact h6
   rw [hrest]; rfl
  refine ⟨e2, by omega, ?_, Jy3 h.quiet _, Js1 h.pg _⟩
  intro x hx
  rcases List.mem_append.1 hx with hx | hx
  ·exact h.short x hx
  ·rw [List.mem_singleton.1 hx]; exact hb
theorem K8f {n : Nat} {s : List Jbe} {done : List Bys} {rest : List Jbe} (h : Jgc n s done rest) (h1 : 2 ≤ n) (h2 : n ≤ 8192) {b : Bys} (hb : b.length ≤ 65536) (hr : Jaq b.length + 1 ≤ rest.length) (k : Nat) (hk : k ≤ (Juo (Jcv done n) b).length) (ch : List Int) :
  ∃ s' ch', Kst (Jbp s) (Juo (Jcv done n) b) (k : Int) ch = (Jbp s', (ch', 0)) ∧ ch'.length ≤ ch.length ∧ ((∃ rest', Jgc n s' done rest') ∧ k ≠ (Juo (Jcv done n) b).length ∨ ∃ rest', Jgc n s' (done ++ [b]) rest') := by
 have hz := h.size
 have hlen := h.len
 have hok : okD (Jbp s) = true := Jw2 (by omega) (by omega)
 have run0 : Jpp (Jbp s) [] = (Jbp s, (0, 0)) := Jjb (by omega) (by omega) []
 obtain ⟨i, r1, r2⟩ := Kze h h1 h2 hb hr
 have full : k = (Juo (Jcv done n) b).length → ∃ s' ch', Kst (Jbp s) (Juo (Jcv done n) b) (k : Int) ch = (Jbp s', (ch', 0)) ∧ ch'.length ≤ ch.length ∧ ((∃ rest', Jgc n s' done rest') ∧ k ≠ (Juo (Jcv done n) b).length ∨ ∃ rest', Jgc n s' (done ++ [b]) rest') := fun e => by
  have hl2 := r2.len
  refine ⟨_, ch, ?_, Nat.le_refl _, .inr ⟨_, r2⟩⟩
  rw [J33 hok hk (by rw [e, List.take_length]; exact r1), Jo4 (by omega) (by omega)]
 have zero : k = 0 → k ≠ (Juo (Jcv done n) b).length → ∃ s' ch', Kst (Jbp s) (Juo (Jcv done n) b) (k : Int) ch = (Jbp s', (ch', 0)) ∧ ch'.length ≤ ch.length ∧ ((∃ rest', Jgc n s' done rest') ∧ k ≠ (Juo (Jcv done n) b).length ∨ ∃ rest', Jgc n s' (done ++ [b]) rest') := fun e hne => by
  refine ⟨s, ch, ?_, Nat.le_refl _, .inl ⟨⟨rest, h⟩, hne⟩⟩
  rw [J33 hok hk (by rw [e]; exact run0), Jo4 (by omega) (by omega)]
 -- a write that is pending
 have wr1 : ∀ (s1 : List Jbe) (a : Nat) (ps : List Jbe) (i : Int), a + ps.length ≤ s1.length → goD (Jbp s1) [wrO a ps] i = ((s1, (wrS a ps, ())), (i + 1, 0)) := by
  intro s1 a ps i hle
  have hf : Ka6 (Jbp s1) (a : Int) (ps.length : Int) = true := tt (by show (0 : Int) ≤ a ∧ (0 : Int) ≤ (ps.length : Int) ∧ (a : Int) + (ps.length : Int) ≤ (s1.length : Int); omega)
  have e1 : Jjw (Jbp s1) (wrO a ps) = ((s1, (wrS a ps, ())), 0) := by
   show (if (0 : Int) = 0 then (if Ka6 (Jbp s1) (a : Int) (ps.length : Int) then _ else _) else _) = _
   rw [if_pos rfl, hf]; rfl
  rw [goD, e1, if_pos rfl]; rfl
 have e0 : (Jcv done n).1 = ((1 + (Jb7 done 1).length : Nat) : Int) := by show 1 + ((Jb7 done 1).length : Int) = _; omega
 have e0' : (Jcv done n).1 + (Jaq b.length : Int) = ((1 + (Jb7 done 1).length + Jaq b.length : Nat) : Int) := by rw [e0]; omega
 have e1 : ((Jcv done n).2.1 + 1).toNat = done.length + 1 := by show ((done.length : Int) + 1).toNat = _; omega
 by_cases c : b = []
 ·subst c
  have ek : Juo (Jcv done n) [] = [wrO ((Jcv done n).1 + Jaq ([] : Bys).length) [Jsd [] ((Jcv done n).2.1 + 1).toNat], syO] := by unfold Juo; rw [if_pos rfl]; rfl
  have el : (Juo (Jcv done n) []).length = 2 := by rw [ek]; rfl
  rw [el] at hk
  match k, hk with
  | 0, _ => exact zero rfl (by rw [el]; omega)
  | 2, _ => exact full el.symm
  | 1, _ =>
   have hrun : Jpp (Jbp s) ((Juo (Jcv done n) []).take 1) = ((s, (wrS ((1 + (Jb7 done 1).length + Jaq ([] : Bys).length : Nat) : Int) [Jsd [] (done.length + 1)], ())), (0 + 1, 0)) := by
    rw [Jjb (by omega) (by omega), ek, e0', e1]
    exact wr1 s _ _ 0 (by show _ + 1 ≤ _; omega)
   obtain ⟨s', ch', g1, g2, g3, g4⟩ := Kc8 (s := s) (a := 1 + (Jb7 done 1).length + Jaq ([] : Bys).length) (ps := [Jsd [] (done.length + 1)]) (by show _ + 1 ≤ _; omega) (by omega) (by omega) ch
   refine ⟨s', ch', ?_, g2, ?_⟩
   ·rw [J33 hok (by rw [el]; omega) hrun, g1]
   ·rcases Kzj (b := []) h hb hr rfl g3 g4 with g | g
    ·exact .inl ⟨⟨_, g⟩, by rw [el]; omega⟩
    ·exact .inr ⟨_, g⟩
 ·have ek : Juo (Jcv done n) b = [wrO (Jcv done n).1 (Jc0 b), syO, wrO ((Jcv done n).1 + Jaq b.length) [Jsd b ((Jcv done n).2.1 + 1).toNat], syO] := by unfold Juo; rw [if_neg c]; rfl
  have el : (Juo (Jcv done n) b).length = 4 := by rw [ek]; rfl
  rw [el] at hk
  -- the data are there
  have hlen2 : (Jeh done (Jc0 b ++ rest.drop (Jaq b.length))).length = n := by
   simp only [Jeh, List.length_cons, List.length_append, Jcl, List.length_drop]; omega
  have h' : Jgc n (Jeh done (Jc0 b ++ rest.drop (Jaq b.length))) done (Jc0 b ++ rest.drop (Jaq b.length)) := by
   refine ⟨rfl, hlen2, h.short, ?_, J19.2 ⟨Kmy b, Js1 h.pg _⟩⟩
   have : J60 (Jc0 b ++ rest.drop (Jaq b.length)) = (J60 (Jc0 b) && J60 (rest.drop (Jaq b.length))) := List.all_append
   rw [this, Jy3 h.quiet, Bool.and_true]
   exact List.all_eq_true.2 fun p hp => tt (by have := Jlf.1 (Jw3 _ _ p hp).1; omega)
  match k, hk with
  | 0, _ => exact zero rfl (by rw [el]; omega)
  | 4, _ => exact full el.symm
  | 1, _ =>
   have hrun : Jpp (Jbp s) ((Juo (Jcv done n) b).take 1) = ((s, (wrS ((1 + (Jb7 done 1).length : Nat) : Int) (Jc0 b), ())), (0 + 1, 0)) := by
    rw [Jjb (by omega) (by omega), ek, e0]
    exact wr1 s _ _ 0 (by rw [Jcl]; omega)
   obtain ⟨s', ch', g1, g2, g3, g4⟩ := Kc8 (s := s) (a := 1 + (Jb7 done 1).length) (ps := Jc0 b) (by rw [Jcl]; omega) (by omega) (by omega) ch
   refine ⟨s', ch', ?_, g2, .inl ⟨K4b (ps := Jc0 b) h g3 (fun p hp => Jw3 _ _ p hp) g4, by rw [el]; omega⟩⟩
   rw [J33 hok (by rw [el]; omega) hrun, g1]
  | 2, _ =>
   have hrun : Jpp (Jbp s) ((Juo (Jcv done n) b).take 2) = (Jbp (Jeh done (Jc0 b ++ rest.drop (Jaq b.length))), (0 + 1 + 1, 0)) := by
    rw [Jjb (by omega) (by omega), ek]
    exact Kc7 h hr [] 0
   refine ⟨_, ch, ?_, Nat.le_refl _, .inl ⟨⟨_, h'⟩, by rw [el]; omega⟩⟩
   rw [J33 hok (by rw [el]; omega) hrun, Jo4 (by omega) (by omega)]
  | 3, _ =>
   have hrun : Jpp (Jbp s) ((Juo (Jcv done n) b).take 3) = ((Jeh done (Jc0 b ++ rest.drop (Jaq b.length)), (wrS ((1 + (Jb7 done 1).length + Jaq b.length : Nat) : Int) [Jsd b (done.length + 1)], ())), (0 + 1 + 1 + 1, 0)) := by
    rw [Jjb (by omega) (by omega), ek]
    show goD (Jbp s) (wrO (Jcv done n).1 (Jc0 b) :: syO :: [wrO ((Jcv done n).1 + Jaq b.length) [Jsd b ((Jcv done n).2.1 + 1).toNat]]) 0 = _
    rw [Kc7 h hr, e0', e1]
    exact wr1 _ _ _ _ (by show _ + 1 ≤ _; omega)
   obtain ⟨s', ch', g1, g2, g3, g4⟩ := Kc8 (s := Jeh done (Jc0 b ++ rest.drop (Jaq b.length))) (a := 1 + (Jb7 done 1).length + Jaq b.length) (ps := [Jsd b (done.length + 1)]) (by show _ + 1 ≤ _; omega) (by omega) (by omega) ch
   refine ⟨s', ch', ?_, g2, ?_⟩
   ·rw [J33 hok (by rw [el]; omega) hrun, g1]
   ·rcases Kzj h' hb (by rw [List.length_append, Jcl, List.length_drop]; omega) (List.take_left' (Jcl b)) g3 g4 with g | g
    ·exact .inl ⟨⟨_, g⟩, by rw [el]; omega⟩
    ·exact .inr ⟨_, g⟩
end Go.AI
