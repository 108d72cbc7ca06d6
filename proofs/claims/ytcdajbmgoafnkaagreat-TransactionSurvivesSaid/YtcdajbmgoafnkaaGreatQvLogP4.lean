/- Texts of the proof, joined: LogP4. Names of our own are shortened by program; the long ones stand in wip/. -/
import Derived.Test.YtcdajbmgoafnkaaGreatQvLogP3
namespace Go.AI
open Go
theorem Kq9 {X : Type} (F : Nat) (fail : X) (ex0 ex1 : Bys → Int → Int → Int → X) (kt kf : X) (s : Bys) (hs : s.length ≤ 1000000000) (h0 : ∀ i : Nat, ex0 s i (s.length : Nat) i = kt) (h1 : ∀ a i : Int, ex1 s a (s.length : Nat) i = kf) : ∀ (j m i : Nat) (s4 : Int), i + j = s.length → j ≤ m →
  Jne F fail ex0 ex1 (m + 1) s s4 (s.length : Nat) i = if Jlb (s.drop i) = true then kt else kf
 | 0, m, i, s4, hi, _ => by
  rw [Jne, J1z]
  rw [Jab (ff (by omega)), h1, List.drop_eq_nil_of_le (by omega)]; rfl
 | j + 1, 0, i, _, _, hm => absurd hm (by omega)
 | j + 1, m + 1, i, s4, hi, hm => by
  have ih := Kq9 F fail ex0 ex1 kt kf s hs h0 h1 j m (i + 1) s4 (by omega) (by omega)
  rw [Jne, J1z]
  rw [Int.toNat_natCast, Jaa (tt (by omega)), Jaa (tt2 (by omega) (by omega)), Jcu (0 : UInt8) (show i < s.length by omega)]
  have e : Jlb (s.getD i 0 :: s.drop (i + 1)) = (decide ((s.getD i 0).toNat ≠ 0) || Jlb (s.drop (i + 1))) := rfl
  rw [e]
  by_cases c : (s.getD i 0).toNat = 0
  ·rw [ff (show ¬ (s.getD i 0).toNat ≠ 0 by omega), Bool.false_or, Jab (Jf8 (by omega)), Jam (by omega) (by omega), Juu]
   exact ih
  ·rw [tt c, Bool.true_or, Jaa (Jjj (by omega)), h0]; rfl
theorem Kmp (s : Bys) (h : Ksy s 64 = true) : ∃ F, ∀ {X : Type} (fail : X) (ret : Bool → X), K68 F s fail ret = ret (Ksz s 64) := ⟨s.length + 1, fun fail ret => by
 simp only [Ksy, decide_eq_true_eq] at h
 unfold K68 Ksz
 refine (Kq9 (s.length + 1) fail _ _ (ret true) (ret false) s h (fun i => congrArg ret (tt (by omega))) (fun _ _ => rfl) s.length s.length 0 0 (by omega) (by omega)).trans ?_
 rw [List.drop_zero]
 cases Jlb s <;> rfl⟩
theorem Js0 (p : Jbe) (l : List Jbe) : Jhs (p :: l) = (p.drop 1).take 15 ++ Jhs l := rfl
theorem Jja {p : Jbe} {l : List Jbe} : Jqr (p :: l) = true ↔ p.length = 16 ∧ Jqr l = true := by
 unfold Jqr; rw [List.all_cons, Bool.and_eq_true, decide_eq_true_iff]
theorem J30 : ∀ {l : List Jbe}, Jqr l = true → (Jhs l).length = 15 * l.length
 | [], _ => rfl
 | p :: l, h => by
  have h := Jja.1 h
  rw [Js0, List.length_append, List.length_take, List.length_drop, J30 h.2, List.length_cons]; omega
theorem Khc : ∀ {l : List Jbe}, Jqr l = true → Jqr (l.takeWhile Je5) = true
 | [], _ => rfl
 | p :: l, h => by
  rw [List.takeWhile_cons]
  have h := Jja.1 h
  split
  ·exact Jja.2 ⟨h.1, Khc h.2⟩
  ·rfl
theorem Khd : ∀ {l : List Jbe}, Jqr l = true → Jqr (l.dropWhile Je5) = true
 | [], _ => rfl
 | p :: l, h => by
  rw [List.dropWhile_cons]
  split
  ·exact Khd (Jja.1 h).2
  ·exact h
theorem Jlf {p : Jbe} : Je5 p = true ↔ (p.getD 0 0).toNat = 1 := by unfold Je5; exact decide_eq_true_iff
theorem Kmq {X : Type} (F : Nat) (fail : X) (ex0 ex1 : Int → Int → List Jbe → Int → Int → Int → (List Jbe × Unit) → Bys → Bool → Jbe → List Bys → X) (K0 : X) (num : Int) (l : List Jbe) (first s5 left : Int) (ok : Bool) (out : List Bys) (h0 : ∀ (c : Int) (r : List Jbe × Unit) (pay : Bys) (p : Jbe), ex0 num c l first s5 left r pay ok p out = K0) :
  ∀ (m : Nat) (rs : List Jbe) (p : Jbe) (c : Nat) (pay : Bys), rs.length ≤ m → pay.length + 15 * (rs.length + 1) ≤ 1000000000 → c + rs.length ≤ 10000000 →
  Jnf F fail ex0 ex1 (m + 1) num c l first s5 left (rs, ()) pay ok p out = match (p :: rs).dropWhile Je5 with
   | [] => K0
   | q :: r => ex1 num ((c + ((p :: rs).takeWhile Je5).length : Nat) : Int) l first s5 left (r, ()) (pay ++ Jhs ((p :: rs).takeWhile Je5)) ok q out := by
 intro m
 induction m with
 | zero =>
  intro rs p c pay hm hb hc
  have : rs = [] := List.length_eq_zero_iff.1 (by omega)
  subst this
  rw [Jnf, J10]
  by_cases hd : Je5 p = true
  ·have hl : ((p.drop 1).take 15).length ≤ 15 := by rw [List.length_take]; omega
   rw [List.dropWhile_cons, if_pos hd, Jaa (Jju (by rw [Jlf.1 hd]; rfl)), Jaa (Jem (by rw [List.length_append]; omega)), Jaa (by decide), h0]; rfl
  ·have hd' : Je5 p = false := by simpa using hd
   rw [List.dropWhile_cons, if_neg hd, List.takeWhile_cons, if_neg hd, Jab (Jjv (fun e => hd (Jlf.2 (by omega))))]
   simp [Jhs]
 | succ m ih =>
  intro rs p c pay hm hb hc
  rw [Jnf, J10]
  by_cases hd : Je5 p = true
  ·have hl : ((p.drop 1).take 15).length ≤ 15 := by rw [List.length_take]; omega
   rw [List.dropWhile_cons, if_pos hd, List.takeWhile_cons, if_pos hd, Jaa (Jju (by rw [Jlf.1 hd]; rfl)), Jaa (Jem (by rw [List.length_append]; omega))]
   cases rs with
   | nil => rw [Jaa (by decide), h0]; rfl
   | cons q t =>
    have hm : t.length + 1 ≤ m + 1 := hm
    have hb : pay.length + 15 * (t.length + 1 + 1) ≤ 1000000000 := hb
    have hc : c + (t.length + 1) ≤ 10000000 := hc
    have e0 : ((q :: t, ()) : List Jbe × Unit).1.length = t.length + 1 := rfl
    rw [e0, Jab (by rw [tt (show ((t.length + 1 : Nat) : Int) > 0 by omega)]; rfl), Jaa (tt (by omega)), Jaa (tt (by omega)), Jam (by omega) (by omega), Juu]
    refine (ih t q (c + 1) (pay ++ (p.drop 1).take 15) (by omega) (by rw [List.length_append]; omega) (by omega)).trans ?_
    split
    ·rfl
    ·rw [Js0, List.append_assoc, List.length_cons]
     congr 1
     omega
  ·rw [List.dropWhile_cons, if_neg hd, List.takeWhile_cons, if_neg hd, Jab (Jjv (fun e => hd (Jlf.2 (by omega))))]
   simp [Jhs]
theorem Jo2 (l : List Jbe) (num : Int) : (l.dropWhile Je5 = [] ∧ Jyn l num = none) ∨ ∃ p r, l.dropWhile Je5 = p :: r ∧ ((Js9 p num (l.takeWhile Je5).length (Jhs (l.takeWhile Je5)) = true ∧ Jyn l num = some ((Jhs (l.takeWhile Je5)).take (fld p 8 4), r)) ∨ (Js9 p num (l.takeWhile Je5).length (Jhs (l.takeWhile Je5)) = false ∧ Jyn l num = none)) := by
 unfold Jyn
 cases h : l.dropWhile Je5 with
 | nil => exact .inl ⟨rfl, rfl⟩
 | cons p r =>
  refine .inr ⟨p, r, rfl, ?_⟩
  cases hk : Js9 p num (l.takeWhile Je5).length (Jhs (l.takeWhile Je5)) with
  | true => exact .inl ⟨rfl, by simp [hk]⟩
  | false => exact .inr ⟨rfl, by simp [hk]⟩
theorem K5w (l : List Jbe) : (l.takeWhile Je5).length + (l.dropWhile Je5).length = l.length := by
 have := congrArg List.length (List.takeWhile_append_dropWhile (p := Je5) (l := l))
 rwa [List.length_append] at this
theorem Kyu {l : List Jbe} {num : Int} {b : Bys} {r : List Jbe} (h : Jyn l num = some (b, r)) : r.length < l.length := by
 rcases Jo2 l num with ⟨_, e⟩ | ⟨p, r', hd, ⟨_, e⟩ | ⟨_, e⟩⟩
 ·rw [e] at h; cases h
 ·rw [e] at h; cases h
  have := K5w l
  rw [hd, List.length_cons] at this; omega
 ·rw [e] at h; cases h
theorem K3y {l : List Jbe} {num : Int} {b : Bys} {r : List Jbe} (h : Jyn l num = some (b, r)) (hl : Jqr l = true) : Jqr r = true := by
 rcases Jo2 l num with ⟨_, e⟩ | ⟨p, r', hd, ⟨_, e⟩ | ⟨_, e⟩⟩
 ·rw [e] at h; cases h
 ·rw [e] at h; cases h
  have := Khd hl
  rw [hd] at this
  exact (Jja.1 this).2
 ·rw [e] at h; cases h
theorem Jd5 {X : Type} {c : Bool} {a b x : X} (h1 : c = true) (h2 : a = x) : (bif c then a else b) = x := (Jaa h1 _ _).trans h2
theorem Jmh {X : Type} {c : Bool} {a b x : X} (h1 : c = false) (h2 : b = x) : (bif c then a else b) = x := (Jab h1 _ _).trans h2
theorem Kmr {X : Type} (F : Nat) (fail : X) (ex0 : List Jbe → Int → Int → List Bys → (List Jbe × Unit) → X) (K : Int → List Bys → X) (l : List Jbe) (first : Int) (hf : 1 ≤ first ∧ first ≤ 8192) (hl : l.length ≤ 1000000) (hF : l.length < F) (h0 : ∀ s out r, ex0 l first s out r = K s out) :
  ∀ (n m : Nat) (rs : List Jbe) (out : List Bys), rs.length ≤ n → n ≤ m → rs.length ≤ l.length → out.length + rs.length ≤ l.length → Jqr rs = true →
  Jng F fail ex0 (m + 1) l first 0 out (rs, ()) = K ((l.length : Int) - ((Jjk n rs (first + out.length)).2.length : Int)) (out ++ (Jjk n rs (first + out.length)).1) := by
 intro n
 induction n with
 | zero =>
  intro m rs out hn _ _ _ _
  have : rs = [] := List.length_eq_zero_iff.1 (by omega)
  subst this
  rw [Jng, J11]
  rw [Jaa (by decide), h0, Jdo (by simp) (by simp; omega), show Jjk 0 [] (first + out.length) = ([], []) from rfl, List.append_nil]
 | succ n ih =>
  intro m rs out hn hm hr ho h16
  obtain ⟨m', rfl⟩ : ∃ m', m = m' + 1 := ⟨m - 1, by omega⟩
  rw [Jng, J11]
  have none_ : Jyn rs (first + out.length) = none → Jjk (n + 1) rs (first + out.length) = ([], rs) := fun e => by rw [Jjk, e]
  cases rs with
  | nil =>
   rw [none_ rfl, Jaa (by decide), h0, Jdo (by simp) (by simp; omega), List.append_nil]
  | cons p t =>
   have hn : t.length + 1 ≤ n + 1 := hn
   have hr : t.length + 1 ≤ l.length := hr
   have ho : out.length + (t.length + 1) ≤ l.length := ho
   have e0 : ((p :: t, ()) : List Jbe × Unit).1.length = t.length + 1 := rfl
   have hlen : (p :: t).length = t.length + 1 := rfl
   rw [e0, Jab (by rw [tt (show ((t.length + 1 : Nat) : Int) > 0 by omega)]; rfl), Jaa (tt (by omega)), Jaa (tt (by omega)), Jam (by omega) (by omega)]
   obtain ⟨F', rfl⟩ : ∃ F', F = F' + 1 := ⟨F - 1, by omega⟩
   have hsub : Jb3 (l.length : Int) ((t.length + 1 : Nat) : Int) = (l.length : Int) - ((p :: t).length : Int) := by rw [Jdo (by omega) (by omega)]; rfl
   have dead : Jyn (p :: t) (first + out.length) = none → ex0 l first (Jb3 (l.length : Int) ((t.length + 1 : Nat) : Int)) out (t, ()) = K ((l.length : Int) - ((Jjk (n + 1) (p :: t) (first + out.length)).2.length : Int)) (out ++ (Jjk (n + 1) (p :: t) (first + out.length)).1) := fun e => by
    rw [none_ e, h0, hsub, List.append_nil]
   refine (Kmq (F' + 1) fail _ _ (K ((l.length : Int) - ((p :: t).length : Int)) out) (first + out.length) l first 0 ((t.length + 1 : Nat) : Int) false out (fun _ _ _ _ => by rw [h0, hsub]) F' t p 0 [] (by omega) (by simp; omega) (by omega)).trans ?_
   rcases Jo2 (p :: t) (first + out.length) with ⟨hd, e⟩ | ⟨q, r, hd, hc⟩
   ·rw [hd, none_ e, List.append_nil]
   rw [hd]
   have hq := K5w (p :: t)
   rw [hd, List.length_cons] at hq
   have hp16 := J30 (Khc h16)
   generalize hps : (p :: t).takeWhile Je5 = ps at hc hq hp16 ⊢
   generalize hpay : Jhs ps = pay at hc hp16 ⊢
   have hpsl : ps.length ≤ 1000000 := by rw [hlen] at hq; omega
   simp only [List.nil_append, Nat.zero_add]
   have v8 : Jci ((q.drop 8).take 4) = ((fld q 8 4 : Nat) : Int) := rfl
   have v1 : Jci ((q.drop 1).take 4) = ((fld q 1 4 : Nat) : Int) := rfl
   have v5 : Jci ((q.drop 5).take 3) = ((fld q 5 3 : Nat) : Int) := rfl
   have v12 : Jci ((q.drop 12).take 4) = ((fld q 12 4 : Nat) : Int) := rfl
   have pv : ∀ a k, k ≤ 7 → Jmc ((q.drop a).take k) = true := fun a k hk => tt (by rw [List.length_take]; omega)
   rw [v8, v1, v5, v12, Int.toNat_natCast, pv 8 4 (by omega), pv 1 4 (by omega), pv 5 3 (by omega), pv 12 4 (by omega), cond_true]
   have deadr : ∀ r', Js9 q (first + out.length) ps.length pay = false → ex0 l first (Jb3 (l.length : Int) ((t.length + 1 : Nat) : Int)) out r' = K ((l.length : Int) - ((Jjk (n + 1) (p :: t) (first + out.length)).2.length : Int)) (out ++ (Jjk (n + 1) (p :: t) (first + out.length)).1) := fun r' hk => by
    rcases hc with ⟨hk', _⟩ | ⟨_, e⟩
    ·rw [hk] at hk'; cases hk'
    ·rw [none_ e, h0, hsub, List.append_nil]
   by_cases c1 : (q.getD 0 0).toNat = 2
   case neg => exact Jmh (Jjv (by omega)) (deadr _ (by unfold Js9; rw [ff (fun h => c1 h.1)]; rfl))
   refine Jd5 (Jju (by omega)) (Jd5 rfl ?_)
   by_cases c2 : (fld q 1 4 : Int) = first + out.length
   case neg => exact Jmh (Jjv c2) (deadr _ (by unfold Js9; rw [ff (fun h => c2 h.2.1)]; rfl))
   refine Jd5 (Jju c2) (Jd5 rfl ?_)
   by_cases c3 : fld q 5 3 = ps.length
   case neg => exact Jmh (Jjv (by omega)) (deadr _ (by unfold Js9; rw [ff (fun h => c3 h.2.2.1)]; rfl))
   refine Jd5 (Jju (by omega)) ?_
   by_cases c4 : fld q 8 4 ≤ 65536
   case neg => exact Jmh (ff (by omega)) (deadr _ (by unfold Js9; rw [ff (fun h => c4 h.2.2.2.1)]; rfl))
   have hnp : Jj1 ((fld q 8 4 : Nat) : Int) = true := tt (by omega)
   have hnr : Jj2 ((fld q 8 4 : Nat) : Int) = ((Jaq (fld q 8 4) : Nat) : Int) := rfl
   refine Jd5 (tt (by omega)) (Jd5 hnp ?_)
   rw [hnr]
   by_cases c5 : Jaq (fld q 8 4) = ps.length
   case neg => exact Jd5 (by rw [Jjv (by omega)]; rfl) (deadr _ (by unfold Js9; rw [ff (fun h => c5 h.2.2.2.2)]; rfl))
   have hle : fld q 8 4 ≤ pay.length := by unfold Jaq at c5; omega
   have hcf : Ksy ((pay.drop (fld q 8 4)).take (pay.length - fld q 8 4)) 64 = true := tt (by rw [List.length_take, List.length_drop]; omega)
   have hdr : (pay.drop (fld q 8 4)).take (pay.length - fld q 8 4) = pay.drop (fld q 8 4) := List.take_of_length_le (by rw [List.length_drop]; exact Nat.le_refl _)
   refine Jmh (by rw [Jju (by omega)]; rfl) (Jd5 (tt2 (by omega) (by omega)) (Jd5 (by rw [tt2 (show (0 : Int) ≤ ((fld q 8 4 : Nat) : Int) by omega) (show ((fld q 8 4 : Nat) : Int) ≤ (pay.length : Int) by omega), Jju rfl]; rfl) (Jd5 hcf ?_)))
   rw [hdr]
   unfold Ksz
   have okc : Js9 q (first + out.length) ps.length pay = (!Jlb (pay.drop (fld q 8 4)) && decide (fld q 12 4 = Kw8 (pay.take (fld q 8 4)))) := by
    unfold Js9; rw [tt (show (q.getD 0 0).toNat = 2 ∧ (fld q 1 4 : Int) = first + out.length ∧ fld q 5 3 = ps.length ∧ fld q 8 4 ≤ 65536 ∧ Jaq (fld q 8 4) = ps.length from ⟨c1, c2, c3, c4, c5⟩), Bool.true_and]
   cases c6 : Jlb (pay.drop (fld q 8 4)) with
   | true => exact Jmh rfl (deadr _ (by rw [okc, c6]; rfl))
   | false =>
    have hcs : J8r (pay.take (fld q 8 4)) = true := tt (by rw [List.length_take]; omega)
    refine Jd5 rfl (Jd5 rfl (Jd5 hcs ?_))
    rw [Kq8]
    by_cases c7 : fld q 12 4 = Kw8 (pay.take (fld q 8 4))
    case neg => exact Jd5 (by rw [Jjv (by omega)]; rfl) (deadr _ (by rw [okc, c6, ff c7]; rfl))
    refine Jmh (by rw [Jju (by omega)]; rfl) (Jd5 (Jem (by rw [List.length_append, List.length_singleton]; omega)) ?_)
    rcases hc with ⟨_, e⟩ | ⟨hk, _⟩
    ·have hrl : r.length ≤ n := by rw [hlen] at hq; omega
     have := ih m' r (out ++ [pay.take (fld q 8 4)]) hrl (by omega) (by rw [hlen] at hq; omega) (by rw [List.length_append, List.length_singleton]; rw [hlen] at hq; omega) (K3y e h16)
     have hnum : first + ((out ++ [pay.take (fld q 8 4)]).length : Int) = first + out.length + 1 := by rw [List.length_append, List.length_singleton]; omega
     rw [hnum] at this
     refine this.trans ?_
     rw [Jjk, e]
     simp only [List.append_assoc, List.singleton_append]
    ·rw [okc, c6, tt c7] at hk; cases hk
theorem Kms (l : List Jbe) (first : Int) (h : Jyo l first = true) : ∃ F, ∀ {X : Type} (fail : X) (ret : List Bys → Int → X), K69 F l first fail ret = ret (Jwk l first) (Jj6 l first) := ⟨l.length + 1, fun fail ret => by
 simp only [Jyo, Bool.and_eq_true, decide_eq_true_eq] at h
 unfold K69 Jwk Jj6 J6s
 by_cases c1 : first < 1
 ·rw [Jaa (tt c1), if_neg (by omega), Int.sub_self]
 by_cases c2 : first > 8192
 ·rw [Jab (ff c1), Jaa (tt c2), if_neg (by omega), Int.sub_self]
 rw [Jab (ff c1), Jab (ff c2), if_pos (by omega)]
 have := Kmr (l.length + 1) fail (fun _ _ s out _ => ret out s) (fun s out => ret out s) l first (by omega) h.1 (by omega) (fun _ _ _ => rfl) l.length l.length l [] (Nat.le_refl _) (Nat.le_refl _) (Nat.le_refl _) (by simp) h.2
 simp only [List.length_nil, List.nil_append] at this
 rw [show first + ((0 : Nat) : Int) = first by omega] at this
 exact this⟩
end Go.AI
