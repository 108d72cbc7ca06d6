/- Texts of the proof, joined: LogP4. Names of our own are shortened by program; the long ones stand in wip/. -/
import Derived.Test.YtnmidfcefljafaaGreatQsLogP3
namespace Go.AI
open Go
theorem Kqg {X : Type} (F : Nat) (fail : X) (ex0 ex1 : Bys → Int → Int → Int → X) (kt kf : X) (s : Bys) (hs : s.length ≤ 1000000000) (h0 : ∀ i : Nat, ex0 s i (s.length : Nat) i = kt) (h1 : ∀ a i : Int, ex1 s a (s.length : Nat) i = kf) : ∀ (j m i : Nat) (s4 : Int), i + j = s.length → j ≤ m →
  Jmv F fail ex0 ex1 (m + 1) s s4 (s.length : Nat) i = if Jkt (s.drop i) = true then kt else kf
 | 0, m, i, s4, hi, _ => by
  rw [Jmv, J1e]
  rw [Jab (ff (by omega)), h1, List.drop_eq_nil_of_le (by omega)]; rfl
 | j + 1, 0, i, _, _, hm => absurd hm (by omega)
 | j + 1, m + 1, i, s4, hi, hm => by
  have ih := Kqg F fail ex0 ex1 kt kf s hs h0 h1 j m (i + 1) s4 (by omega) (by omega)
  rw [Jmv, J1e]
  rw [Int.toNat_natCast, Jaa (tt (by omega)), Jaa (tt2 (by omega) (by omega)), Jcz (0 : UInt8) (show i < s.length by omega)]
  have e : Jkt (s.getD i 0 :: s.drop (i + 1)) = (decide ((s.getD i 0).toNat ≠ 0) || Jkt (s.drop (i + 1))) := rfl
  rw [e]
  by_cases c : (s.getD i 0).toNat = 0
  ·rw [ff (show ¬ (s.getD i 0).toNat ≠ 0 by omega), Bool.false_or, Jab (Jhl (by omega)), Jar (by omega) (by omega), Jwc]
   exact ih
  ·rw [tt c, Bool.true_or, Jaa (Jkp (by omega)), h0]; rfl
theorem Kl2 (s : Bys) (h : Kr2 s 64 = true) : ∃ F, ∀ {X : Type} (fail : X) (ret : Bool → X), K5s F s fail ret = ret (Kr3 s 64) := ⟨s.length + 1, fun fail ret => by
 simp only [Kr2, decide_eq_true_eq] at h
 unfold K5s Kr3
 refine (Kqg (s.length + 1) fail _ _ (ret true) (ret false) s h (fun i => congrArg ret (tt (by omega))) (fun _ _ => rfl) s.length s.length 0 0 (by omega) (by omega)).trans ?_
 rw [List.drop_zero]
 cases Jkt s <;> rfl⟩
theorem Jsf (p : Ja4) (l : List Ja4) : Jhf (p :: l) = (p.drop 1).take 15 ++ Jhf l := rfl
theorem Jix {p : Ja4} {l : List Ja4} : Jp8 (p :: l) = true ↔ p.length = 16 ∧ Jp8 l = true := by
 unfold Jp8; rw [List.all_cons, Bool.and_eq_true, decide_eq_true_iff]
theorem J3a : ∀ {l : List Ja4}, Jp8 l = true → (Jhf l).length = 15 * l.length
 | [], _ => rfl
 | p :: l, h => by
  have h := Jix.1 h
  rw [Jsf, List.length_append, List.length_take, List.length_drop, J3a h.2, List.length_cons]; omega
theorem Kgn : ∀ {l : List Ja4}, Jp8 l = true → Jp8 (l.takeWhile Jet) = true
 | [], _ => rfl
 | p :: l, h => by
  rw [List.takeWhile_cons]
  have h := Jix.1 h
  split
  ·exact Jix.2 ⟨h.1, Kgn h.2⟩
  ·rfl
theorem Kgo : ∀ {l : List Ja4}, Jp8 l = true → Jp8 (l.dropWhile Jet) = true
 | [], _ => rfl
 | p :: l, h => by
  rw [List.dropWhile_cons]
  split
  ·exact Kgo (Jix.1 h).2
  ·exact h
theorem Jky {p : Ja4} : Jet p = true ↔ (p.getD 0 0).toNat = 1 := by unfold Jet; exact decide_eq_true_iff
theorem Kl3 {X : Type} (F : Nat) (fail : X) (ex0 ex1 : Int → Int → List Ja4 → Int → Int → Int → (List Ja4 × Unit) → Bys → Bool → Ja4 → List Bys → X) (K0 : X) (num : Int) (l : List Ja4) (first s5 left : Int) (ok : Bool) (out : List Bys) (h0 : ∀ (c : Int) (r : List Ja4 × Unit) (pay : Bys) (p : Ja4), ex0 num c l first s5 left r pay ok p out = K0) :
  ∀ (m : Nat) (rs : List Ja4) (p : Ja4) (c : Nat) (pay : Bys), rs.length ≤ m → pay.length + 15 * (rs.length + 1) ≤ 1000000000 → c + rs.length ≤ 10000000 →
  Jmw F fail ex0 ex1 (m + 1) num c l first s5 left (rs, ()) pay ok p out = match (p :: rs).dropWhile Jet with
   | [] => K0
   | q :: r => ex1 num ((c + ((p :: rs).takeWhile Jet).length : Nat) : Int) l first s5 left (r, ()) (pay ++ Jhf ((p :: rs).takeWhile Jet)) ok q out := by
 intro m
 induction m with
 | zero =>
  intro rs p c pay hm hb hc
  have : rs = [] := List.length_eq_zero_iff.1 (by omega)
  subst this
  rw [Jmw, J1f]
  by_cases hd : Jet p = true
  ·have hl : ((p.drop 1).take 15).length ≤ 15 := by rw [List.length_take]; omega
   rw [List.dropWhile_cons, if_pos hd, Jaa (Jl7 (by rw [Jky.1 hd]; rfl)), Jaa (Jds (by rw [List.length_append]; omega)), Jaa (by decide), h0]; rfl
  ·have hd' : Jet p = false := by simpa using hd
   rw [List.dropWhile_cons, if_neg hd, List.takeWhile_cons, if_neg hd, Jab (Jpi (fun e => hd (Jky.2 (by omega))))]
   simp [Jhf]
 | succ m ih =>
  intro rs p c pay hm hb hc
  rw [Jmw, J1f]
  by_cases hd : Jet p = true
  ·have hl : ((p.drop 1).take 15).length ≤ 15 := by rw [List.length_take]; omega
   rw [List.dropWhile_cons, if_pos hd, List.takeWhile_cons, if_pos hd, Jaa (Jl7 (by rw [Jky.1 hd]; rfl)), Jaa (Jds (by rw [List.length_append]; omega))]
   cases rs with
   | nil => rw [Jaa (by decide), h0]; rfl
   | cons q t =>
    have hm : t.length + 1 ≤ m + 1 := hm
    have hb : pay.length + 15 * (t.length + 1 + 1) ≤ 1000000000 := hb
    have hc : c + (t.length + 1) ≤ 10000000 := hc
    have e0 : ((q :: t, ()) : List Ja4 × Unit).1.length = t.length + 1 := rfl
    rw [e0, Jab (by rw [tt (show ((t.length + 1 : Nat) : Int) > 0 by omega)]; rfl), Jaa (tt (by omega)), Jaa (tt (by omega)), Jar (by omega) (by omega), Jwc]
    refine (ih t q (c + 1) (pay ++ (p.drop 1).take 15) (by omega) (by rw [List.length_append]; omega) (by omega)).trans ?_
    split
    ·rfl
    ·rw [Jsf, List.append_assoc, List.length_cons]
     congr 1
     omega
  ·rw [List.dropWhile_cons, if_neg hd, List.takeWhile_cons, if_neg hd, Jab (Jpi (fun e => hd (Jky.2 (by omega))))]
   simp [Jhf]
theorem Joi (l : List Ja4) (num : Int) : (l.dropWhile Jet = [] ∧ Jx2 l num = none) ∨ ∃ p r, l.dropWhile Jet = p :: r ∧ ((Jsn p num (l.takeWhile Jet).length (Jhf (l.takeWhile Jet)) = true ∧ Jx2 l num = some ((Jhf (l.takeWhile Jet)).take (fld p 8 4), r)) ∨ (Jsn p num (l.takeWhile Jet).length (Jhf (l.takeWhile Jet)) = false ∧ Jx2 l num = none)) := by
 unfold Jx2
 cases h : l.dropWhile Jet with
 | nil => exact .inl ⟨rfl, rfl⟩
 | cons p r =>
  refine .inr ⟨p, r, rfl, ?_⟩
  cases hk : Jsn p num (l.takeWhile Jet).length (Jhf (l.takeWhile Jet)) with
  | true => exact .inl ⟨rfl, by simp [hk]⟩
  | false => exact .inr ⟨rfl, by simp [hk]⟩
theorem K4e (l : List Ja4) : (l.takeWhile Jet).length + (l.dropWhile Jet).length = l.length := by
 have := congrArg List.length (List.takeWhile_append_dropWhile (p := Jet) (l := l))
 rwa [List.length_append] at this
theorem Kxs {l : List Ja4} {num : Int} {b : Bys} {r : List Ja4} (h : Jx2 l num = some (b, r)) : r.length < l.length := by
 rcases Joi l num with ⟨_, e⟩ | ⟨p, r', hd, ⟨_, e⟩ | ⟨_, e⟩⟩
 ·rw [e] at h; cases h
 ·rw [e] at h; cases h
  have := K4e l
  rw [hd, List.length_cons] at this; omega
 ·rw [e] at h; cases h
theorem K2k {l : List Ja4} {num : Int} {b : Bys} {r : List Ja4} (h : Jx2 l num = some (b, r)) (hl : Jp8 l = true) : Jp8 r = true := by
 rcases Joi l num with ⟨_, e⟩ | ⟨p, r', hd, ⟨_, e⟩ | ⟨_, e⟩⟩
 ·rw [e] at h; cases h
 ·rw [e] at h; cases h
  have := Kgo hl
  rw [hd] at this
  exact (Jix.1 this).2
 ·rw [e] at h; cases h
theorem Jdo {X : Type} {c : Bool} {a b x : X} (h1 : c = true) (h2 : a = x) : (bif c then a else b) = x := (Jaa h1 _ _).trans h2
theorem Jl0 {X : Type} {c : Bool} {a b x : X} (h1 : c = false) (h2 : b = x) : (bif c then a else b) = x := (Jab h1 _ _).trans h2
theorem Kl4 {X : Type} (F : Nat) (fail : X) (ex0 : List Ja4 → Int → Int → List Bys → (List Ja4 × Unit) → X) (K : Int → List Bys → X) (l : List Ja4) (first : Int) (hf : 1 ≤ first ∧ first ≤ 8192) (hl : l.length ≤ 1000000) (hF : l.length < F) (h0 : ∀ s out r, ex0 l first s out r = K s out) :
  ∀ (n m : Nat) (rs : List Ja4) (out : List Bys), rs.length ≤ n → n ≤ m → rs.length ≤ l.length → out.length + rs.length ≤ l.length → Jp8 rs = true →
  Jmx F fail ex0 (m + 1) l first 0 out (rs, ()) = K ((l.length : Int) - ((Ji6 n rs (first + out.length)).2.length : Int)) (out ++ (Ji6 n rs (first + out.length)).1) := by
 intro n
 induction n with
 | zero =>
  intro m rs out hn _ _ _ _
  have : rs = [] := List.length_eq_zero_iff.1 (by omega)
  subst this
  rw [Jmx, J1g]
  rw [Jaa (by decide), h0, Jde (by simp) (by simp; omega), show Ji6 0 [] (first + out.length) = ([], []) from rfl, List.append_nil]
 | succ n ih =>
  intro m rs out hn hm hr ho h16
  obtain ⟨m', rfl⟩ : ∃ m', m = m' + 1 := ⟨m - 1, by omega⟩
  rw [Jmx, J1g]
  have none_ : Jx2 rs (first + out.length) = none → Ji6 (n + 1) rs (first + out.length) = ([], rs) := fun e => by rw [Ji6, e]
  cases rs with
  | nil =>
   rw [none_ rfl, Jaa (by decide), h0, Jde (by simp) (by simp; omega), List.append_nil]
  | cons p t =>
   have hn : t.length + 1 ≤ n + 1 := hn
   have hr : t.length + 1 ≤ l.length := hr
   have ho : out.length + (t.length + 1) ≤ l.length := ho
   have e0 : ((p :: t, ()) : List Ja4 × Unit).1.length = t.length + 1 := rfl
   have hlen : (p :: t).length = t.length + 1 := rfl
   rw [e0, Jab (by rw [tt (show ((t.length + 1 : Nat) : Int) > 0 by omega)]; rfl), Jaa (tt (by omega)), Jaa (tt (by omega)), Jar (by omega) (by omega)]
   obtain ⟨F', rfl⟩ : ∃ F', F = F' + 1 := ⟨F - 1, by omega⟩
   have hsub : Jdj (l.length : Int) ((t.length + 1 : Nat) : Int) = (l.length : Int) - ((p :: t).length : Int) := by rw [Jde (by omega) (by omega)]; rfl
   have dead : Jx2 (p :: t) (first + out.length) = none → ex0 l first (Jdj (l.length : Int) ((t.length + 1 : Nat) : Int)) out (t, ()) = K ((l.length : Int) - ((Ji6 (n + 1) (p :: t) (first + out.length)).2.length : Int)) (out ++ (Ji6 (n + 1) (p :: t) (first + out.length)).1) := fun e => by
    rw [none_ e, h0, hsub, List.append_nil]
   refine (Kl3 (F' + 1) fail _ _ (K ((l.length : Int) - ((p :: t).length : Int)) out) (first + out.length) l first 0 ((t.length + 1 : Nat) : Int) false out (fun _ _ _ _ => by rw [h0, hsub]) F' t p 0 [] (by omega) (by simp; omega) (by omega)).trans ?_
   rcases Joi (p :: t) (first + out.length) with ⟨hd, e⟩ | ⟨q, r, hd, hc⟩
   ·rw [hd, none_ e, List.append_nil]
   rw [hd]
   have hq := K4e (p :: t)
   rw [hd, List.length_cons] at hq
   have hp16 := J3a (Kgn h16)
   generalize hps : (p :: t).takeWhile Jet = ps at hc hq hp16 ⊢
   generalize hpay : Jhf ps = pay at hc hp16 ⊢
   have hpsl : ps.length ≤ 1000000 := by rw [hlen] at hq; omega
   simp only [List.nil_append, Nat.zero_add]
   have v8 : Jb5 ((q.drop 8).take 4) = ((fld q 8 4 : Nat) : Int) := rfl
   have v1 : Jb5 ((q.drop 1).take 4) = ((fld q 1 4 : Nat) : Int) := rfl
   have v5 : Jb5 ((q.drop 5).take 3) = ((fld q 5 3 : Nat) : Int) := rfl
   have v12 : Jb5 ((q.drop 12).take 4) = ((fld q 12 4 : Nat) : Int) := rfl
   have pv : ∀ a k, k ≤ 7 → Jlu ((q.drop a).take k) = true := fun a k hk => tt (by rw [List.length_take]; omega)
   rw [v8, v1, v5, v12, Int.toNat_natCast, pv 8 4 (by omega), pv 1 4 (by omega), pv 5 3 (by omega), pv 12 4 (by omega), cond_true]
   have deadr : ∀ r', Jsn q (first + out.length) ps.length pay = false → ex0 l first (Jdj (l.length : Int) ((t.length + 1 : Nat) : Int)) out r' = K ((l.length : Int) - ((Ji6 (n + 1) (p :: t) (first + out.length)).2.length : Int)) (out ++ (Ji6 (n + 1) (p :: t) (first + out.length)).1) := fun r' hk => by
    rcases hc with ⟨hk', _⟩ | ⟨_, e⟩
    ·rw [hk] at hk'; cases hk'
    ·rw [none_ e, h0, hsub, List.append_nil]
   by_cases c1 : (q.getD 0 0).toNat = 2
   case neg => exact Jl0 (Jpi (by omega)) (deadr _ (by unfold Jsn; rw [ff (fun h => c1 h.1)]; rfl))
   refine Jdo (Jl7 (by omega)) (Jdo rfl ?_)
   by_cases c2 : (fld q 1 4 : Int) = first + out.length
   case neg => exact Jl0 (Jpi c2) (deadr _ (by unfold Jsn; rw [ff (fun h => c2 h.2.1)]; rfl))
   refine Jdo (Jl7 c2) (Jdo rfl ?_)
   by_cases c3 : fld q 5 3 = ps.length
   case neg => exact Jl0 (Jpi (by omega)) (deadr _ (by unfold Jsn; rw [ff (fun h => c3 h.2.2.1)]; rfl))
   refine Jdo (Jl7 (by omega)) ?_
   by_cases c4 : fld q 8 4 ≤ 65536
   case neg => exact Jl0 (ff (by omega)) (deadr _ (by unfold Jsn; rw [ff (fun h => c4 h.2.2.2.1)]; rfl))
   have hnp : Jjk ((fld q 8 4 : Nat) : Int) = true := tt (by omega)
   have hnr : Jjl ((fld q 8 4 : Nat) : Int) = ((Jas (fld q 8 4) : Nat) : Int) := rfl
   refine Jdo (tt (by omega)) (Jdo hnp ?_)
   rw [hnr]
   by_cases c5 : Jas (fld q 8 4) = ps.length
   case neg => exact Jdo (by rw [Jpi (by omega)]; rfl) (deadr _ (by unfold Jsn; rw [ff (fun h => c5 h.2.2.2.2)]; rfl))
   have hle : fld q 8 4 ≤ pay.length := by unfold Jas at c5; omega
   have hcf : Kr2 ((pay.drop (fld q 8 4)).take (pay.length - fld q 8 4)) 64 = true := tt (by rw [List.length_take, List.length_drop]; omega)
   have hdr : (pay.drop (fld q 8 4)).take (pay.length - fld q 8 4) = pay.drop (fld q 8 4) := List.take_of_length_le (by rw [List.length_drop]; exact Nat.le_refl _)
   refine Jl0 (by rw [Jl7 (by omega)]; rfl) (Jdo (tt2 (by omega) (by omega)) (Jdo (by rw [tt2 (show (0 : Int) ≤ ((fld q 8 4 : Nat) : Int) by omega) (show ((fld q 8 4 : Nat) : Int) ≤ (pay.length : Int) by omega), Jl7 rfl]; rfl) (Jdo hcf ?_)))
   rw [hdr]
   unfold Kr3
   have okc : Jsn q (first + out.length) ps.length pay = (!Jkt (pay.drop (fld q 8 4)) && decide (fld q 12 4 = Kv8 (pay.take (fld q 8 4)))) := by
    unfold Jsn; rw [tt (show (q.getD 0 0).toNat = 2 ∧ (fld q 1 4 : Int) = first + out.length ∧ fld q 5 3 = ps.length ∧ fld q 8 4 ≤ 65536 ∧ Jas (fld q 8 4) = ps.length from ⟨c1, c2, c3, c4, c5⟩), Bool.true_and]
   cases c6 : Jkt (pay.drop (fld q 8 4)) with
   | true => exact Jl0 rfl (deadr _ (by rw [okc, c6]; rfl))
   | false =>
    have hcs : J7x (pay.take (fld q 8 4)) = true := tt (by rw [List.length_take]; omega)
    refine Jdo rfl (Jdo rfl (Jdo hcs ?_))
    rw [Kqf]
    by_cases c7 : fld q 12 4 = Kv8 (pay.take (fld q 8 4))
    case neg => exact Jdo (by rw [Jpi (by omega)]; rfl) (deadr _ (by rw [okc, c6, ff c7]; rfl))
    refine Jl0 (by rw [Jl7 (by omega)]; rfl) (Jdo (Jds (by rw [List.length_append, List.length_singleton]; omega)) ?_)
    rcases hc with ⟨_, e⟩ | ⟨hk, _⟩
    ·have hrl : r.length ≤ n := by rw [hlen] at hq; omega
     have := ih m' r (out ++ [pay.take (fld q 8 4)]) hrl (by omega) (by rw [hlen] at hq; omega) (by rw [List.length_append, List.length_singleton]; rw [hlen] at hq; omega) (K2k e h16)
     have hnum : first + ((out ++ [pay.take (fld q 8 4)]).length : Int) = first + out.length + 1 := by rw [List.length_append, List.length_singleton]; omega
     rw [hnum] at this
     refine this.trans ?_
     rw [Ji6, e]
     simp only [List.append_assoc, List.singleton_append]
    ·rw [okc, c6, tt c7] at hk; cases hk
theorem Kl5 (l : List Ja4) (first : Int) (h : Jx3 l first = true) : ∃ F, ∀ {X : Type} (fail : X) (ret : List Bys → Int → X), K5t F l first fail ret = ret (Jvx l first) (Jjp l first) := ⟨l.length + 1, fun fail ret => by
 simp only [Jx3, Bool.and_eq_true, decide_eq_true_eq] at h
 unfold K5t Jvx Jjp J5x
 by_cases c1 : first < 1
 ·rw [Jaa (tt c1), if_neg (by omega), Int.sub_self]
 by_cases c2 : first > 8192
 ·rw [Jab (ff c1), Jaa (tt c2), if_neg (by omega), Int.sub_self]
 rw [Jab (ff c1), Jab (ff c2), if_pos (by omega)]
 have := Kl4 (l.length + 1) fail (fun _ _ s out _ => ret out s) (fun s out => ret out s) l first (by omega) h.1 (by omega) (fun _ _ _ => rfl) l.length l.length l [] (Nat.le_refl _) (Nat.le_refl _) (Nat.le_refl _) (by simp) h.2
 simp only [List.length_nil, List.nil_append] at this
 rw [show first + ((0 : Nat) : Int) = first by omega] at this
 exact this⟩
end Go.AI
