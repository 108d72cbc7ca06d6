/- Texts of the proof, joined: LogP4. Names of our own are shortened by program; the long ones stand in wip/. -/
import Derived.Test.YtnmidfcefljafaaGreatQpLogP3
namespace Go.AI
open Go
theorem Kr4 {X : Type} (F : Nat) (fail : X) (ex0 ex1 : Bys → Int → Int → Int → X) (kt kf : X) (s : Bys) (hs : s.length ≤ 1000000000) (h0 : ∀ i : Nat, ex0 s i (s.length : Nat) i = kt) (h1 : ∀ a i : Int, ex1 s a (s.length : Nat) i = kf) : ∀ (j m i : Nat) (s4 : Int), i + j = s.length → j ≤ m →
  Jm8 F fail ex0 ex1 (m + 1) s s4 (s.length : Nat) i = if Jk2 (s.drop i) = true then kt else kf
 | 0, m, i, s4, hi, _ => by
  rw [Jm8, J17]
  rw [Jab (ff (by omega)), h1, List.drop_eq_nil_of_le (by omega)]; rfl
 | j + 1, 0, i, _, _, hm => absurd hm (by omega)
 | j + 1, m + 1, i, s4, hi, hm => by
  have ih := Kr4 F fail ex0 ex1 kt kf s hs h0 h1 j m (i + 1) s4 (by omega) (by omega)
  rw [Jm8, J17]
  rw [Int.toNat_natCast, Jaa (tt (by omega)), Jaa (tt2 (by omega) (by omega)), Jcx (0 : UInt8) (show i < s.length by omega)]
  have e : Jk2 (s.getD i 0 :: s.drop (i + 1)) = (decide ((s.getD i 0).toNat ≠ 0) || Jk2 (s.drop (i + 1))) := rfl
  rw [e]
  by_cases c : (s.getD i 0).toNat = 0
  ·rw [ff (show ¬ (s.getD i 0).toNat ≠ 0 by omega), Bool.false_or, Jab (Jgi (by omega)), Jao (by omega) (by omega), Jte]
   exact ih
  ·rw [tt c, Bool.true_or, Jaa (Jh9 (by omega)), h0]; rfl
theorem Kne (s : Bys) (h : Ktx s 64 = true) : ∃ F, ∀ {X : Type} (fail : X) (ret : Bool → X), K7q F s fail ret = ret (Kty s 64) := ⟨s.length + 1, fun fail ret => by
 simp only [Ktx, decide_eq_true_eq] at h
 unfold K7q Kty
 refine (Kr4 (s.length + 1) fail _ _ (ret true) (ret false) s h (fun i => congrArg ret (tt (by omega))) (fun _ _ => rfl) s.length s.length 0 0 (by omega) (by omega)).trans ?_
 rw [List.drop_zero]
 cases Jk2 s <;> rfl⟩
theorem Jst (p : Ja4) (l : List Ja4) : Jhg (p :: l) = (p.drop 1).take 15 ++ Jhg l := rfl
theorem Ji2 {p : Ja4} {l : List Ja4} : Jql (p :: l) = true ↔ p.length = 16 ∧ Jql l = true := by
 unfold Jql; rw [List.all_cons, Bool.and_eq_true, decide_eq_true_iff]
theorem J4b : ∀ {l : List Ja4}, Jql l = true → (Jhg l).length = 15 * l.length
 | [], _ => rfl
 | p :: l, h => by
  have h := Ji2.1 h
  rw [Jst, List.length_append, List.length_take, List.length_drop, J4b h.2, List.length_cons]; omega
theorem Khs : ∀ {l : List Ja4}, Jql l = true → Jql (l.takeWhile Jet) = true
 | [], _ => rfl
 | p :: l, h => by
  rw [List.takeWhile_cons]
  have h := Ji2.1 h
  split
  ·exact Ji2.2 ⟨h.1, Khs h.2⟩
  ·rfl
theorem Kht : ∀ {l : List Ja4}, Jql l = true → Jql (l.dropWhile Jet) = true
 | [], _ => rfl
 | p :: l, h => by
  rw [List.dropWhile_cons]
  split
  ·exact Kht (Ji2.1 h).2
  ·exact h
theorem Jk5 {p : Ja4} : Jet p = true ↔ (p.getD 0 0).toNat = 1 := by unfold Jet; exact decide_eq_true_iff
theorem Knf {X : Type} (F : Nat) (fail : X) (ex0 ex1 : Int → Int → List Ja4 → Int → Int → Int → (List Ja4 × Unit) → Bys → Bool → Ja4 → List Bys → X) (K0 : X) (num : Int) (l : List Ja4) (first s5 left : Int) (ok : Bool) (out : List Bys) (h0 : ∀ (c : Int) (r : List Ja4 × Unit) (pay : Bys) (p : Ja4), ex0 num c l first s5 left r pay ok p out = K0) :
  ∀ (m : Nat) (rs : List Ja4) (p : Ja4) (c : Nat) (pay : Bys), rs.length ≤ m → pay.length + 15 * (rs.length + 1) ≤ 1000000000 → c + rs.length ≤ 10000000 →
  Jm9 F fail ex0 ex1 (m + 1) num c l first s5 left (rs, ()) pay ok p out = match (p :: rs).dropWhile Jet with
   | [] => K0
   | q :: r => ex1 num ((c + ((p :: rs).takeWhile Jet).length : Nat) : Int) l first s5 left (r, ()) (pay ++ Jhg ((p :: rs).takeWhile Jet)) ok q out := by
 intro m
 induction m with
 | zero =>
  intro rs p c pay hm hb hc
  have : rs = [] := List.length_eq_zero_iff.1 (by omega)
  subst this
  rw [Jm9, J18]
  by_cases hd : Jet p = true
  ·have hl : ((p.drop 1).take 15).length ≤ 15 := by rw [List.length_take]; omega
   rw [List.dropWhile_cons, if_pos hd, Jaa (Jmg (by rw [Jk5.1 hd]; rfl)), Jaa (Jea (by rw [List.length_append]; omega)), Jaa (by decide), h0]; rfl
  ·have hd' : Jet p = false := by simpa using hd
   rw [List.dropWhile_cons, if_neg hd, List.takeWhile_cons, if_neg hd, Jab (Jmt (fun e => hd (Jk5.2 (by omega))))]
   simp [Jhg]
 | succ m ih =>
  intro rs p c pay hm hb hc
  rw [Jm9, J18]
  by_cases hd : Jet p = true
  ·have hl : ((p.drop 1).take 15).length ≤ 15 := by rw [List.length_take]; omega
   rw [List.dropWhile_cons, if_pos hd, List.takeWhile_cons, if_pos hd, Jaa (Jmg (by rw [Jk5.1 hd]; rfl)), Jaa (Jea (by rw [List.length_append]; omega))]
   cases rs with
   | nil => rw [Jaa (by decide), h0]; rfl
   | cons q t =>
    have hm : t.length + 1 ≤ m + 1 := hm
    have hb : pay.length + 15 * (t.length + 1 + 1) ≤ 1000000000 := hb
    have hc : c + (t.length + 1) ≤ 10000000 := hc
    have e0 : ((q :: t, ()) : List Ja4 × Unit).1.length = t.length + 1 := rfl
    rw [e0, Jab (by rw [tt (show ((t.length + 1 : Nat) : Int) > 0 by omega)]; rfl), Jaa (tt (by omega)), Jaa (tt (by omega)), Jao (by omega) (by omega), Jte]
    refine (ih t q (c + 1) (pay ++ (p.drop 1).take 15) (by omega) (by rw [List.length_append]; omega) (by omega)).trans ?_
    split
    ·rfl
    ·rw [Jst, List.append_assoc, List.length_cons]
     congr 1
     omega
  ·rw [List.dropWhile_cons, if_neg hd, List.takeWhile_cons, if_neg hd, Jab (Jmt (fun e => hd (Jk5.2 (by omega))))]
   simp [Jhg]
theorem Joz (l : List Ja4) (num : Int) : (l.dropWhile Jet = [] ∧ Jyi l num = none) ∨ ∃ p r, l.dropWhile Jet = p :: r ∧ ((Js1 p num (l.takeWhile Jet).length (Jhg (l.takeWhile Jet)) = true ∧ Jyi l num = some ((Jhg (l.takeWhile Jet)).take (fld p 8 4), r)) ∨ (Js1 p num (l.takeWhile Jet).length (Jhg (l.takeWhile Jet)) = false ∧ Jyi l num = none)) := by
 unfold Jyi
 cases h : l.dropWhile Jet with
 | nil => exact .inl ⟨rfl, rfl⟩
 | cons p r =>
  refine .inr ⟨p, r, rfl, ?_⟩
  cases hk : Js1 p num (l.takeWhile Jet).length (Jhg (l.takeWhile Jet)) with
  | true => exact .inl ⟨rfl, by simp [hk]⟩
  | false => exact .inr ⟨rfl, by simp [hk]⟩
theorem K6b (l : List Ja4) : (l.takeWhile Jet).length + (l.dropWhile Jet).length = l.length := by
 have := congrArg List.length (List.takeWhile_append_dropWhile (p := Jet) (l := l))
 rwa [List.length_append] at this
theorem Kzr {l : List Ja4} {num : Int} {b : Bys} {r : List Ja4} (h : Jyi l num = some (b, r)) : r.length < l.length := by
 rcases Joz l num with ⟨_, e⟩ | ⟨p, r', hd, ⟨_, e⟩ | ⟨_, e⟩⟩
 ·rw [e] at h; cases h
 ·rw [e] at h; cases h
  have := K6b l
  rw [hd, List.length_cons] at this; omega
 ·rw [e] at h; cases h
theorem K4l {l : List Ja4} {num : Int} {b : Bys} {r : List Ja4} (h : Jyi l num = some (b, r)) (hl : Jql l = true) : Jql r = true := by
 rcases Joz l num with ⟨_, e⟩ | ⟨p, r', hd, ⟨_, e⟩ | ⟨_, e⟩⟩
 ·rw [e] at h; cases h
 ·rw [e] at h; cases h
  have := Kht hl
  rw [hd] at this
  exact (Ji2.1 this).2
 ·rw [e] at h; cases h
theorem Jdt {X : Type} {c : Bool} {a b x : X} (h1 : c = true) (h2 : a = x) : (bif c then a else b) = x := (Jaa h1 _ _).trans h2
theorem Jl8 {X : Type} {c : Bool} {a b x : X} (h1 : c = false) (h2 : b = x) : (bif c then a else b) = x := (Jab h1 _ _).trans h2
theorem Kng {X : Type} (F : Nat) (fail : X) (ex0 : List Ja4 → Int → Int → List Bys → (List Ja4 × Unit) → X) (K : Int → List Bys → X) (l : List Ja4) (first : Int) (hf : 1 ≤ first ∧ first ≤ 8192) (hl : l.length ≤ 1000000) (hF : l.length < F) (h0 : ∀ s out r, ex0 l first s out r = K s out) :
  ∀ (n m : Nat) (rs : List Ja4) (out : List Bys), rs.length ≤ n → n ≤ m → rs.length ≤ l.length → out.length + rs.length ≤ l.length → Jql rs = true →
  Jna F fail ex0 (m + 1) l first 0 out (rs, ()) = K ((l.length : Int) - ((Jjb n rs (first + out.length)).2.length : Int)) (out ++ (Jjb n rs (first + out.length)).1) := by
 intro n
 induction n with
 | zero =>
  intro m rs out hn _ _ _ _
  have : rs = [] := List.length_eq_zero_iff.1 (by omega)
  subst this
  rw [Jna, J19]
  rw [Jaa (by decide), h0, Jdk (by simp) (by simp; omega), show Jjb 0 [] (first + out.length) = ([], []) from rfl, List.append_nil]
 | succ n ih =>
  intro m rs out hn hm hr ho h16
  obtain ⟨m', rfl⟩ : ∃ m', m = m' + 1 := ⟨m - 1, by omega⟩
  rw [Jna, J19]
  have none_ : Jyi rs (first + out.length) = none → Jjb (n + 1) rs (first + out.length) = ([], rs) := fun e => by rw [Jjb, e]
  cases rs with
  | nil =>
   rw [none_ rfl, Jaa (by decide), h0, Jdk (by simp) (by simp; omega), List.append_nil]
  | cons p t =>
   have hn : t.length + 1 ≤ n + 1 := hn
   have hr : t.length + 1 ≤ l.length := hr
   have ho : out.length + (t.length + 1) ≤ l.length := ho
   have e0 : ((p :: t, ()) : List Ja4 × Unit).1.length = t.length + 1 := rfl
   have hlen : (p :: t).length = t.length + 1 := rfl
   rw [e0, Jab (by rw [tt (show ((t.length + 1 : Nat) : Int) > 0 by omega)]; rfl), Jaa (tt (by omega)), Jaa (tt (by omega)), Jao (by omega) (by omega)]
   obtain ⟨F', rfl⟩ : ∃ F', F = F' + 1 := ⟨F - 1, by omega⟩
   have hsub : Jdo (l.length : Int) ((t.length + 1 : Nat) : Int) = (l.length : Int) - ((p :: t).length : Int) := by rw [Jdk (by omega) (by omega)]; rfl
   have dead : Jyi (p :: t) (first + out.length) = none → ex0 l first (Jdo (l.length : Int) ((t.length + 1 : Nat) : Int)) out (t, ()) = K ((l.length : Int) - ((Jjb (n + 1) (p :: t) (first + out.length)).2.length : Int)) (out ++ (Jjb (n + 1) (p :: t) (first + out.length)).1) := fun e => by
    rw [none_ e, h0, hsub, List.append_nil]
   refine (Knf (F' + 1) fail _ _ (K ((l.length : Int) - ((p :: t).length : Int)) out) (first + out.length) l first 0 ((t.length + 1 : Nat) : Int) false out (fun _ _ _ _ => by rw [h0, hsub]) F' t p 0 [] (by omega) (by simp; omega) (by omega)).trans ?_
   rcases Joz (p :: t) (first + out.length) with ⟨hd, e⟩ | ⟨q, r, hd, hc⟩
   ·rw [hd, none_ e, List.append_nil]
   rw [hd]
   have hq := K6b (p :: t)
   rw [hd, List.length_cons] at hq
   have hp16 := J4b (Khs h16)
   generalize hps : (p :: t).takeWhile Jet = ps at hc hq hp16 ⊢
   generalize hpay : Jhg ps = pay at hc hp16 ⊢
   have hpsl : ps.length ≤ 1000000 := by rw [hlen] at hq; omega
   simp only [List.nil_append, Nat.zero_add]
   have v8 : Jb8 ((q.drop 8).take 4) = ((fld q 8 4 : Nat) : Int) := rfl
   have v1 : Jb8 ((q.drop 1).take 4) = ((fld q 1 4 : Nat) : Int) := rfl
   have v5 : Jb8 ((q.drop 5).take 3) = ((fld q 5 3 : Nat) : Int) := rfl
   have v12 : Jb8 ((q.drop 12).take 4) = ((fld q 12 4 : Nat) : Int) := rfl
   have pv : ∀ a k, k ≤ 7 → Jl2 ((q.drop a).take k) = true := fun a k hk => tt (by rw [List.length_take]; omega)
   rw [v8, v1, v5, v12, Int.toNat_natCast, pv 8 4 (by omega), pv 1 4 (by omega), pv 5 3 (by omega), pv 12 4 (by omega), cond_true]
   have deadr : ∀ r', Js1 q (first + out.length) ps.length pay = false → ex0 l first (Jdo (l.length : Int) ((t.length + 1 : Nat) : Int)) out r' = K ((l.length : Int) - ((Jjb (n + 1) (p :: t) (first + out.length)).2.length : Int)) (out ++ (Jjb (n + 1) (p :: t) (first + out.length)).1) := fun r' hk => by
    rcases hc with ⟨hk', _⟩ | ⟨_, e⟩
    ·rw [hk] at hk'; cases hk'
    ·rw [none_ e, h0, hsub, List.append_nil]
   by_cases c1 : (q.getD 0 0).toNat = 2
   case neg => exact Jl8 (Jmt (by omega)) (deadr _ (by unfold Js1; rw [ff (fun h => c1 h.1)]; rfl))
   refine Jdt (Jmg (by omega)) (Jdt rfl ?_)
   by_cases c2 : (fld q 1 4 : Int) = first + out.length
   case neg => exact Jl8 (Jmt c2) (deadr _ (by unfold Js1; rw [ff (fun h => c2 h.2.1)]; rfl))
   refine Jdt (Jmg c2) (Jdt rfl ?_)
   by_cases c3 : fld q 5 3 = ps.length
   case neg => exact Jl8 (Jmt (by omega)) (deadr _ (by unfold Js1; rw [ff (fun h => c3 h.2.2.1)]; rfl))
   refine Jdt (Jmg (by omega)) ?_
   by_cases c4 : fld q 8 4 ≤ 65536
   case neg => exact Jl8 (ff (by omega)) (deadr _ (by unfold Js1; rw [ff (fun h => c4 h.2.2.2.1)]; rfl))
   have hnp : Jjt ((fld q 8 4 : Nat) : Int) = true := tt (by omega)
   have hnr : Jju ((fld q 8 4 : Nat) : Int) = ((Jau (fld q 8 4) : Nat) : Int) := rfl
   refine Jdt (tt (by omega)) (Jdt hnp ?_)
   rw [hnr]
   by_cases c5 : Jau (fld q 8 4) = ps.length
   case neg => exact Jdt (by rw [Jmt (by omega)]; rfl) (deadr _ (by unfold Js1; rw [ff (fun h => c5 h.2.2.2.2)]; rfl))
   have hle : fld q 8 4 ≤ pay.length := by unfold Jau at c5; omega
   have hcf : Ktx ((pay.drop (fld q 8 4)).take (pay.length - fld q 8 4)) 64 = true := tt (by rw [List.length_take, List.length_drop]; omega)
   have hdr : (pay.drop (fld q 8 4)).take (pay.length - fld q 8 4) = pay.drop (fld q 8 4) := List.take_of_length_le (by rw [List.length_drop]; exact Nat.le_refl _)
   refine Jl8 (by rw [Jmg (by omega)]; rfl) (Jdt (tt2 (by omega) (by omega)) (Jdt (by rw [tt2 (show (0 : Int) ≤ ((fld q 8 4 : Nat) : Int) by omega) (show ((fld q 8 4 : Nat) : Int) ≤ (pay.length : Int) by omega), Jmg rfl]; rfl) (Jdt hcf ?_)))
   rw [hdr]
   unfold Kty
   have okc : Js1 q (first + out.length) ps.length pay = (!Jk2 (pay.drop (fld q 8 4)) && decide (fld q 12 4 = Kx3 (pay.take (fld q 8 4)))) := by
    unfold Js1; rw [tt (show (q.getD 0 0).toNat = 2 ∧ (fld q 1 4 : Int) = first + out.length ∧ fld q 5 3 = ps.length ∧ fld q 8 4 ≤ 65536 ∧ Jau (fld q 8 4) = ps.length from ⟨c1, c2, c3, c4, c5⟩), Bool.true_and]
   cases c6 : Jk2 (pay.drop (fld q 8 4)) with
   | true => exact Jl8 rfl (deadr _ (by rw [okc, c6]; rfl))
   | false =>
    have hcs : J84 (pay.take (fld q 8 4)) = true := tt (by rw [List.length_take]; omega)
    refine Jdt rfl (Jdt rfl (Jdt hcs ?_))
    rw [Kr3]
    by_cases c7 : fld q 12 4 = Kx3 (pay.take (fld q 8 4))
    case neg => exact Jdt (by rw [Jmt (by omega)]; rfl) (deadr _ (by rw [okc, c6, ff c7]; rfl))
    refine Jl8 (by rw [Jmg (by omega)]; rfl) (Jdt (Jea (by rw [List.length_append, List.length_singleton]; omega)) ?_)
    rcases hc with ⟨_, e⟩ | ⟨hk, _⟩
    ·have hrl : r.length ≤ n := by rw [hlen] at hq; omega
     have := ih m' r (out ++ [pay.take (fld q 8 4)]) hrl (by omega) (by rw [hlen] at hq; omega) (by rw [List.length_append, List.length_singleton]; rw [hlen] at hq; omega) (K4l e h16)
     have hnum : first + ((out ++ [pay.take (fld q 8 4)]).length : Int) = first + out.length + 1 := by rw [List.length_append, List.length_singleton]; omega
     rw [hnum] at this
     refine this.trans ?_
     rw [Jjb, e]
     simp only [List.append_assoc, List.singleton_append]
    ·rw [okc, c6, tt c7] at hk; cases hk
theorem Knh (l : List Ja4) (first : Int) (h : Jyj l first = true) : ∃ F, ∀ {X : Type} (fail : X) (ret : List Bys → Int → X), K7r F l first fail ret = ret (Jwc l first) (Jjy l first) := ⟨l.length + 1, fun fail ret => by
 simp only [Jyj, Bool.and_eq_true, decide_eq_true_eq] at h
 unfold K7r Jwc Jjy J62
 by_cases c1 : first < 1
 ·rw [Jaa (tt c1), if_neg (by omega), Int.sub_self]
 by_cases c2 : first > 8192
 ·rw [Jab (ff c1), Jaa (tt c2), if_neg (by omega), Int.sub_self]
 rw [Jab (ff c1), Jab (ff c2), if_pos (by omega)]
 have := Kng (l.length + 1) fail (fun _ _ s out _ => ret out s) (fun s out => ret out s) l first (by omega) h.1 (by omega) (fun _ _ _ => rfl) l.length l.length l [] (Nat.le_refl _) (Nat.le_refl _) (Nat.le_refl _) (by simp) h.2
 simp only [List.length_nil, List.nil_append] at this
 rw [show first + ((0 : Nat) : Int) = first by omega] at this
 exact this⟩
end Go.AI
