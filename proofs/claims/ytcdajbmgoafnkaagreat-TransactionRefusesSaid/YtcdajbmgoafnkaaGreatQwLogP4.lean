/- Texts of the proof, joined: LogP4. Names of our own are shortened by program; the long ones stand in wip/. -/
import Derived.Test.YtcdajbmgoafnkaaGreatQwLogP3
namespace Go.AI
open Go
theorem Kxy {X : Type} (F : Nat) (fail : X) (ex0 ex1 : Bys → Int → Int → Int → X) (kt kf : X) (s : Bys) (hs : s.length ≤ 1000000000) (h0 : ∀ i : Nat, ex0 s i (s.length : Nat) i = kt) (h1 : ∀ a i : Int, ex1 s a (s.length : Nat) i = kf) : ∀ (j m i : Nat) (s4 : Int), i + j = s.length → j ≤ m →
  Joq F fail ex0 ex1 (m + 1) s s4 (s.length : Nat) i = if Jl7 (s.drop i) = true then kt else kf
 | 0, m, i, s4, hi, _ => by
  rw [Joq, J4y]
  rw [Jab (ff (by omega)), h1, List.drop_eq_nil_of_le (by omega)]; rfl
 | j + 1, 0, i, _, _, hm => absurd hm (by omega)
 | j + 1, m + 1, i, s4, hi, hm => by
  have ih := Kxy F fail ex0 ex1 kt kf s hs h0 h1 j m (i + 1) s4 (by omega) (by omega)
  rw [Joq, J4y]
  rw [Int.toNat_natCast, Jaa (tt (by omega)), Jaa (tt2 (by omega) (by omega)), Jcu (0 : UInt8) (show i < s.length by omega)]
  have e : Jl7 (s.getD i 0 :: s.drop (i + 1)) = (decide ((s.getD i 0).toNat ≠ 0) || Jl7 (s.drop (i + 1))) := rfl
  rw [e]
  by_cases c : (s.getD i 0).toNat = 0
  ·rw [ff (show ¬ (s.getD i 0).toNat ≠ 0 by omega), Bool.false_or, Jab (Jgh (by omega)), Jak (by omega) (by omega), J0e]
   exact ih
  ·rw [tt c, Bool.true_or, Jaa (Jj8 (by omega)), h0]; rfl
theorem Kst (s : Bys) (h : Kzq s 64 = true) : ∃ F, ∀ {X : Type} (fail : X) (ret : Bool → X), Qfg F s fail ret = ret (Kzr s 64) := ⟨s.length + 1, fun fail ret => by
 simp only [Kzq, decide_eq_true_eq] at h
 unfold Qfg Kzr
 refine (Kxy (s.length + 1) fail _ _ (ret true) (ret false) s h (fun i => congrArg ret (tt (by omega))) (fun _ _ => rfl) s.length s.length 0 0 (by omega) (by omega)).trans ?_
 rw [List.drop_zero]
 cases Jl7 s <;> rfl⟩
theorem Jut (p : Ja7) (l : List Ja7) : Jh4 (p :: l) = (p.drop 1).take 15 ++ Jh4 l := rfl
theorem Jjy {p : Ja7} {l : List Ja7} : Jr1 (p :: l) = true ↔ p.length = 16 ∧ Jr1 l = true := by
 unfold Jr1; rw [List.all_cons, Bool.and_eq_true, decide_eq_true_iff]
theorem J63 : ∀ {l : List Ja7}, Jr1 l = true → (Jh4 l).length = 15 * l.length
 | [], _ => rfl
 | p :: l, h => by
  have h := Jjy.1 h
  rw [Jut, List.length_append, List.length_take, List.length_drop, J63 h.2, List.length_cons]; omega
theorem Kmb : ∀ {l : List Ja7}, Jr1 l = true → Jr1 (l.takeWhile Jew) = true
 | [], _ => rfl
 | p :: l, h => by
  rw [List.takeWhile_cons]
  have h := Jjy.1 h
  split
  ·exact Jjy.2 ⟨h.1, Kmb h.2⟩
  ·rfl
theorem Kmc : ∀ {l : List Ja7}, Jr1 l = true → Jr1 (l.dropWhile Jew) = true
 | [], _ => rfl
 | p :: l, h => by
  rw [List.dropWhile_cons]
  split
  ·exact Kmc (Jjy.1 h).2
  ·exact h
theorem Jmc {p : Ja7} : Jew p = true ↔ (p.getD 0 0).toNat = 1 := by unfold Jew; exact decide_eq_true_iff
theorem Ksu {X : Type} (F : Nat) (fail : X) (ex0 ex1 : Int → Int → List Ja7 → Int → Int → Int → (List Ja7 × Unit) → Bys → Bool → Ja7 → List Bys → X) (K0 : X) (num : Int) (l : List Ja7) (first s5 left : Int) (ok : Bool) (out : List Bys) (h0 : ∀ (c : Int) (r : List Ja7 × Unit) (pay : Bys) (p : Ja7), ex0 num c l first s5 left r pay ok p out = K0) :
  ∀ (m : Nat) (rs : List Ja7) (p : Ja7) (c : Nat) (pay : Bys), rs.length ≤ m → pay.length + 15 * (rs.length + 1) ≤ 1000000000 → c + rs.length ≤ 10000000 →
  Jor F fail ex0 ex1 (m + 1) num c l first s5 left (rs, ()) pay ok p out = match (p :: rs).dropWhile Jew with
   | [] => K0
   | q :: r => ex1 num ((c + ((p :: rs).takeWhile Jew).length : Nat) : Int) l first s5 left (r, ()) (pay ++ Jh4 ((p :: rs).takeWhile Jew)) ok q out := by
 intro m
 induction m with
 | zero =>
  intro rs p c pay hm hb hc
  have : rs = [] := List.length_eq_zero_iff.1 (by omega)
  subst this
  rw [Jor, J4z]
  by_cases hd : Jew p = true
  ·have hl : ((p.drop 1).take 15).length ≤ 15 := by rw [List.length_take]; omega
   rw [List.dropWhile_cons, if_pos hd, Jaa (Jnv (by rw [Jmc.1 hd]; rfl)), Jaa (Jcg (by rw [List.length_append]; omega)), Jaa (by decide), h0]; rfl
  ·have hd' : Jew p = false := by simpa using hd
   rw [List.dropWhile_cons, if_neg hd, List.takeWhile_cons, if_neg hd, Jab (Jkj (fun e => hd (Jmc.2 (by omega))))]
   simp [Jh4]
 | succ m ih =>
  intro rs p c pay hm hb hc
  rw [Jor, J4z]
  by_cases hd : Jew p = true
  ·have hl : ((p.drop 1).take 15).length ≤ 15 := by rw [List.length_take]; omega
   rw [List.dropWhile_cons, if_pos hd, List.takeWhile_cons, if_pos hd, Jaa (Jnv (by rw [Jmc.1 hd]; rfl)), Jaa (Jcg (by rw [List.length_append]; omega))]
   cases rs with
   | nil => rw [Jaa (by decide), h0]; rfl
   | cons q t =>
    have hm : t.length + 1 ≤ m + 1 := hm
    have hb : pay.length + 15 * (t.length + 1 + 1) ≤ 1000000000 := hb
    have hc : c + (t.length + 1) ≤ 10000000 := hc
    have e0 : ((q :: t, ()) : List Ja7 × Unit).1.length = t.length + 1 := rfl
    rw [e0, Jab (by rw [tt (show ((t.length + 1 : Nat) : Int) > 0 by omega)]; rfl), Jaa (tt (by omega)), Jaa (tt (by omega)), Jak (by omega) (by omega), J0e]
    refine (ih t q (c + 1) (pay ++ (p.drop 1).take 15) (by omega) (by rw [List.length_append]; omega) (by omega)).trans ?_
    split
    ·rfl
    ·rw [Jut, List.append_assoc, List.length_cons]
     congr 1
     omega
  ·rw [List.dropWhile_cons, if_neg hd, List.takeWhile_cons, if_neg hd, Jab (Jkj (fun e => hd (Jmc.2 (by omega))))]
   simp [Jh4]
theorem Jqe (l : List Ja7) (num : Int) : (l.dropWhile Jew = [] ∧ J0x l num = none) ∨ ∃ p r, l.dropWhile Jew = p :: r ∧ ((Ju5 p num (l.takeWhile Jew).length (Jh4 (l.takeWhile Jew)) = true ∧ J0x l num = some ((Jh4 (l.takeWhile Jew)).take (fld p 8 4), r)) ∨ (Ju5 p num (l.takeWhile Jew).length (Jh4 (l.takeWhile Jew)) = false ∧ J0x l num = none)) := by
 unfold J0x
 cases h : l.dropWhile Jew with
 | nil => exact .inl ⟨rfl, rfl⟩
 | cons p r =>
  refine .inr ⟨p, r, rfl, ?_⟩
  cases hk : Ju5 p num (l.takeWhile Jew).length (Jh4 (l.takeWhile Jew)) with
  | true => exact .inl ⟨rfl, by simp [hk]⟩
  | false => exact .inr ⟨rfl, by simp [hk]⟩
theorem Qdx (l : List Ja7) : (l.takeWhile Jew).length + (l.dropWhile Jew).length = l.length := by
 have := congrArg List.length (List.takeWhile_append_dropWhile (p := Jew) (l := l))
 rwa [List.length_append] at this
theorem K6g {l : List Ja7} {num : Int} {b : Bys} {r : List Ja7} (h : J0x l num = some (b, r)) : r.length < l.length := by
 rcases Jqe l num with ⟨_, e⟩ | ⟨p, r', hd, ⟨_, e⟩ | ⟨_, e⟩⟩
 ·rw [e] at h; cases h
 ·rw [e] at h; cases h
  have := Qdx l
  rw [hd, List.length_cons] at this; omega
 ·rw [e] at h; cases h
theorem Qbw {l : List Ja7} {num : Int} {b : Bys} {r : List Ja7} (h : J0x l num = some (b, r)) (hl : Jr1 l = true) : Jr1 r = true := by
 rcases Jqe l num with ⟨_, e⟩ | ⟨p, r', hd, ⟨_, e⟩ | ⟨_, e⟩⟩
 ·rw [e] at h; cases h
 ·rw [e] at h; cases h
  have := Kmc hl
  rw [hd] at this
  exact (Jjy.1 this).2
 ·rw [e] at h; cases h
theorem Jdp {X : Type} {c : Bool} {a b x : X} (h1 : c = true) (h2 : a = x) : (bif c then a else b) = x := (Jaa h1 _ _).trans h2
theorem Jnp {X : Type} {c : Bool} {a b x : X} (h1 : c = false) (h2 : b = x) : (bif c then a else b) = x := (Jab h1 _ _).trans h2
theorem Ksv {X : Type} (F : Nat) (fail : X) (ex0 : List Ja7 → Int → Int → List Bys → (List Ja7 × Unit) → X) (K : Int → List Bys → X) (l : List Ja7) (first : Int) (hf : 1 ≤ first ∧ first ≤ 8192) (hl : l.length ≤ 1000000) (hF : l.length < F) (h0 : ∀ s out r, ex0 l first s out r = K s out) :
  ∀ (n m : Nat) (rs : List Ja7) (out : List Bys), rs.length ≤ n → n ≤ m → rs.length ≤ l.length → out.length + rs.length ≤ l.length → Jr1 rs = true →
  Jos F fail ex0 (m + 1) l first 0 out (rs, ()) = K ((l.length : Int) - ((Jj9 n rs (first + out.length)).2.length : Int)) (out ++ (Jj9 n rs (first + out.length)).1) := by
 intro n
 induction n with
 | zero =>
  intro m rs out hn _ _ _ _
  have : rs = [] := List.length_eq_zero_iff.1 (by omega)
  subst this
  rw [Jos, J40]
  rw [Jaa (by decide), h0, Jcf (by simp) (by simp; omega), show Jj9 0 [] (first + out.length) = ([], []) from rfl, List.append_nil]
 | succ n ih =>
  intro m rs out hn hm hr ho h16
  obtain ⟨m', rfl⟩ : ∃ m', m = m' + 1 := ⟨m - 1, by omega⟩
  rw [Jos, J40]
  have none_ : J0x rs (first + out.length) = none → Jj9 (n + 1) rs (first + out.length) = ([], rs) := fun e => by rw [Jj9, e]
  cases rs with
  | nil =>
   rw [none_ rfl, Jaa (by decide), h0, Jcf (by simp) (by simp; omega), List.append_nil]
  | cons p t =>
   have hn : t.length + 1 ≤ n + 1 := hn
   have hr : t.length + 1 ≤ l.length := hr
   have ho : out.length + (t.length + 1) ≤ l.length := ho
   have e0 : ((p :: t, ()) : List Ja7 × Unit).1.length = t.length + 1 := rfl
   have hlen : (p :: t).length = t.length + 1 := rfl
   rw [e0, Jab (by rw [tt (show ((t.length + 1 : Nat) : Int) > 0 by omega)]; rfl), Jaa (tt (by omega)), Jaa (tt (by omega)), Jak (by omega) (by omega)]
   obtain ⟨F', rfl⟩ : ∃ F', F = F' + 1 := ⟨F - 1, by omega⟩
   have hsub : Jby (l.length : Int) ((t.length + 1 : Nat) : Int) = (l.length : Int) - ((p :: t).length : Int) := by rw [Jcf (by omega) (by omega)]; rfl
   have dead : J0x (p :: t) (first + out.length) = none → ex0 l first (Jby (l.length : Int) ((t.length + 1 : Nat) : Int)) out (t, ()) = K ((l.length : Int) - ((Jj9 (n + 1) (p :: t) (first + out.length)).2.length : Int)) (out ++ (Jj9 (n + 1) (p :: t) (first + out.length)).1) := fun e => by
    rw [none_ e, h0, hsub, List.append_nil]
   refine (Ksu (F' + 1) fail _ _ (K ((l.length : Int) - ((p :: t).length : Int)) out) (first + out.length) l first 0 ((t.length + 1 : Nat) : Int) false out (fun _ _ _ _ => by rw [h0, hsub]) F' t p 0 [] (by omega) (by simp; omega) (by omega)).trans ?_
   rcases Jqe (p :: t) (first + out.length) with ⟨hd, e⟩ | ⟨q, r, hd, hc⟩
   ·rw [hd, none_ e, List.append_nil]
   rw [hd]
   have hq := Qdx (p :: t)
   rw [hd, List.length_cons] at hq
   have hp16 := J63 (Kmb h16)
   generalize hps : (p :: t).takeWhile Jew = ps at hc hq hp16 ⊢
   generalize hpay : Jh4 ps = pay at hc hp16 ⊢
   have hpsl : ps.length ≤ 1000000 := by rw [hlen] at hq; omega
   simp only [List.nil_append, Nat.zero_add]
   have v8 : Jb5 ((q.drop 8).take 4) = ((fld q 8 4 : Nat) : Int) := rfl
   have v1 : Jb5 ((q.drop 1).take 4) = ((fld q 1 4 : Nat) : Int) := rfl
   have v5 : Jb5 ((q.drop 5).take 3) = ((fld q 5 3 : Nat) : Int) := rfl
   have v12 : Jb5 ((q.drop 12).take 4) = ((fld q 12 4 : Nat) : Int) := rfl
   have pv : ∀ a k, k ≤ 7 → Jnd ((q.drop a).take k) = true := fun a k hk => tt (by rw [List.length_take]; omega)
   rw [v8, v1, v5, v12, Int.toNat_natCast, pv 8 4 (by omega), pv 1 4 (by omega), pv 5 3 (by omega), pv 12 4 (by omega), cond_true]
   have deadr : ∀ r', Ju5 q (first + out.length) ps.length pay = false → ex0 l first (Jby (l.length : Int) ((t.length + 1 : Nat) : Int)) out r' = K ((l.length : Int) - ((Jj9 (n + 1) (p :: t) (first + out.length)).2.length : Int)) (out ++ (Jj9 (n + 1) (p :: t) (first + out.length)).1) := fun r' hk => by
    rcases hc with ⟨hk', _⟩ | ⟨_, e⟩
    ·rw [hk] at hk'; cases hk'
    ·rw [none_ e, h0, hsub, List.append_nil]
   by_cases c1 : (q.getD 0 0).toNat = 2
   case neg => exact Jnp (Jkj (by omega)) (deadr _ (by unfold Ju5; rw [ff (fun h => c1 h.1)]; rfl))
   refine Jdp (Jnv (by omega)) (Jdp rfl ?_)
   by_cases c2 : (fld q 1 4 : Int) = first + out.length
   case neg => exact Jnp (Jkj c2) (deadr _ (by unfold Ju5; rw [ff (fun h => c2 h.2.1)]; rfl))
   refine Jdp (Jnv c2) (Jdp rfl ?_)
   by_cases c3 : fld q 5 3 = ps.length
   case neg => exact Jnp (Jkj (by omega)) (deadr _ (by unfold Ju5; rw [ff (fun h => c3 h.2.2.1)]; rfl))
   refine Jdp (Jnv (by omega)) ?_
   by_cases c4 : fld q 8 4 ≤ 65536
   case neg => exact Jnp (ff (by omega)) (deadr _ (by unfold Ju5; rw [ff (fun h => c4 h.2.2.2.1)]; rfl))
   have hnp : Jkp ((fld q 8 4 : Nat) : Int) = true := tt (by omega)
   have hnr : Jkq ((fld q 8 4 : Nat) : Int) = ((Jar (fld q 8 4) : Nat) : Int) := rfl
   refine Jdp (tt (by omega)) (Jdp hnp ?_)
   rw [hnr]
   by_cases c5 : Jar (fld q 8 4) = ps.length
   case neg => exact Jdp (by rw [Jkj (by omega)]; rfl) (deadr _ (by unfold Ju5; rw [ff (fun h => c5 h.2.2.2.2)]; rfl))
   have hle : fld q 8 4 ≤ pay.length := by unfold Jar at c5; omega
   have hcf : Kzq ((pay.drop (fld q 8 4)).take (pay.length - fld q 8 4)) 64 = true := tt (by rw [List.length_take, List.length_drop]; omega)
   have hdr : (pay.drop (fld q 8 4)).take (pay.length - fld q 8 4) = pay.drop (fld q 8 4) := List.take_of_length_le (by rw [List.length_drop]; exact Nat.le_refl _)
   refine Jnp (by rw [Jnv (by omega)]; rfl) (Jdp (tt2 (by omega) (by omega)) (Jdp (by rw [tt2 (show (0 : Int) ≤ ((fld q 8 4 : Nat) : Int) by omega) (show ((fld q 8 4 : Nat) : Int) ≤ (pay.length : Int) by omega), Jnv rfl]; rfl) (Jdp hcf ?_)))
   rw [hdr]
   unfold Kzr
   have okc : Ju5 q (first + out.length) ps.length pay = (!Jl7 (pay.drop (fld q 8 4)) && decide (fld q 12 4 = K4d (pay.take (fld q 8 4)))) := by
    unfold Ju5; rw [tt (show (q.getD 0 0).toNat = 2 ∧ (fld q 1 4 : Int) = first + out.length ∧ fld q 5 3 = ps.length ∧ fld q 8 4 ≤ 65536 ∧ Jar (fld q 8 4) = ps.length from ⟨c1, c2, c3, c4, c5⟩), Bool.true_and]
   cases c6 : Jl7 (pay.drop (fld q 8 4)) with
   | true => exact Jnp rfl (deadr _ (by rw [okc, c6]; rfl))
   | false =>
    have hcs : Kcr (pay.take (fld q 8 4)) = true := tt (by rw [List.length_take]; omega)
    refine Jdp rfl (Jdp rfl (Jdp hcs ?_))
    rw [Kxx]
    by_cases c7 : fld q 12 4 = K4d (pay.take (fld q 8 4))
    case neg => exact Jdp (by rw [Jkj (by omega)]; rfl) (deadr _ (by rw [okc, c6, ff c7]; rfl))
    refine Jnp (by rw [Jnv (by omega)]; rfl) (Jdp (Jcg (by rw [List.length_append, List.length_singleton]; omega)) ?_)
    rcases hc with ⟨_, e⟩ | ⟨hk, _⟩
    ·have hrl : r.length ≤ n := by rw [hlen] at hq; omega
     have := ih m' r (out ++ [pay.take (fld q 8 4)]) hrl (by omega) (by rw [hlen] at hq; omega) (by rw [List.length_append, List.length_singleton]; rw [hlen] at hq; omega) (Qbw e h16)
     have hnum : first + ((out ++ [pay.take (fld q 8 4)]).length : Int) = first + out.length + 1 := by rw [List.length_append, List.length_singleton]; omega
     rw [hnum] at this
     refine this.trans ?_
     rw [Jj9, e]
     simp only [List.append_assoc, List.singleton_append]
    ·rw [okc, c6, tt c7] at hk; cases hk
theorem Ksw (l : List Ja7) (first : Int) (h : J0y l first = true) : ∃ F, ∀ {X : Type} (fail : X) (ret : List Bys → Int → X), Qfh F l first fail ret = ret (Jyi l first) (Jku l first) := ⟨l.length + 1, fun fail ret => by
 simp only [J0y, Bool.and_eq_true, decide_eq_true_eq] at h
 unfold Qfh Jyi Jku Kag
 by_cases c1 : first < 1
 ·rw [Jaa (tt c1), if_neg (by omega), Int.sub_self]
 by_cases c2 : first > 8192
 ·rw [Jab (ff c1), Jaa (tt c2), if_neg (by omega), Int.sub_self]
 rw [Jab (ff c1), Jab (ff c2), if_pos (by omega)]
 have := Ksv (l.length + 1) fail (fun _ _ s out _ => ret out s) (fun s out => ret out s) l first (by omega) h.1 (by omega) (fun _ _ _ => rfl) l.length l.length l [] (Nat.le_refl _) (Nat.le_refl _) (Nat.le_refl _) (by simp) h.2
 simp only [List.length_nil, List.nil_append] at this
 rw [show first + ((0 : Nat) : Int) = first by omega] at this
 exact this⟩
end Go.AI
