/- Texts of the proof, joined: LogP4. Names of our own are shortened by program; the long ones stand in wip/. -/
import Derived.Test.YtcdajbmgoafnkaaGreatQrLogP3
namespace Go.AI
open Go
theorem K4z {X : Type} (F : Nat) (fail : X) (ex0 ex1 : Bys → Int → Int → Int → X) (kt kf : X) (s : Bys) (hs : s.length ≤ 1000000000) (h0 : ∀ i : Nat, ex0 s i (s.length : Nat) i = kt) (h1 : ∀ a i : Int, ex1 s a (s.length : Nat) i = kf) : ∀ (j m i : Nat) (s4 : Int), i + j = s.length → j ≤ m →
  Jqo F fail ex0 ex1 (m + 1) s s4 (s.length : Nat) i = if Jnk (s.drop i) = true then kt else kf
 | 0, m, i, s4, hi, _ => by
  rw [Jqo, J84]
  rw [Jab (ff (by omega)), h1, List.drop_eq_nil_of_le (by omega)]; rfl
 | j + 1, 0, i, _, _, hm => absurd hm (by omega)
 | j + 1, m + 1, i, s4, hi, hm => by
  have ih := K4z F fail ex0 ex1 kt kf s hs h0 h1 j m (i + 1) s4 (by omega) (by omega)
  rw [Jqo, J84]
  rw [Int.toNat_natCast, Jaa (tt (by omega)), Jaa (tt2 (by omega) (by omega)), Jdj (0 : UInt8) (show i < s.length by omega)]
  have e : Jnk (s.getD i 0 :: s.drop (i + 1)) = (decide ((s.getD i 0).toNat ≠ 0) || Jnk (s.drop (i + 1))) := rfl
  rw [e]
  by_cases c : (s.getD i 0).toNat = 0
  ·rw [ff (show ¬ (s.getD i 0).toNat ≠ 0 by omega), Bool.false_or, Jab (Jgm (by omega)), Jai (by omega) (by omega), J2d]
   exact ih
  ·rw [tt c, Bool.true_or, Jaa (Jhl (by omega)), h0]; rfl
theorem Kzp (s : Bys) (h : K60 s 64 = true) : ∃ F, ∀ {X : Type} (fail : X) (ret : Bool → X), Qmc F s fail ret = ret (K61 s 64) := ⟨s.length + 1, fun fail ret => by
 simp only [K60, decide_eq_true_eq] at h
 unfold Qmc K61
 refine (K4z (s.length + 1) fail _ _ (ret true) (ret false) s h (fun i => congrArg ret (tt (by omega))) (fun _ _ => rfl) s.length s.length 0 0 (by omega) (by omega)).trans ?_
 rw [List.drop_zero]
 cases Jnk s <;> rfl⟩
theorem Jqw (p : Jbw) (l : List Jbw) : Jf1 (p :: l) = (p.drop 1).take 15 ++ Jf1 l := rfl
theorem Jlk {p : Jbw} {l : List Jbw} : J1o (p :: l) = true ↔ p.length = 16 ∧ J1o l = true := by
 unfold J1o; rw [List.all_cons, Bool.and_eq_true, decide_eq_true_iff]
theorem J2o : ∀ {l : List Jbw}, J1o l = true → (Jf1 l).length = 15 * l.length
 | [], _ => rfl
 | p :: l, h => by
  have h := Jlk.1 h
  rw [Jqw, List.length_append, List.length_take, List.length_drop, J2o h.2, List.length_cons]; omega
theorem Kbl : ∀ {l : List Jbw}, J1o l = true → J1o (l.takeWhile Jdp) = true
 | [], _ => rfl
 | p :: l, h => by
  rw [List.takeWhile_cons]
  have h := Jlk.1 h
  split
  ·exact Jlk.2 ⟨h.1, Kbl h.2⟩
  ·rfl
theorem Kbm : ∀ {l : List Jbw}, J1o l = true → J1o (l.dropWhile Jdp) = true
 | [], _ => rfl
 | p :: l, h => by
  rw [List.dropWhile_cons]
  split
  ·exact Kbm (Jlk.1 h).2
  ·exact h
theorem Jnq {p : Jbw} : Jdp p = true ↔ (p.getD 0 0).toNat = 1 := by unfold Jdp; exact decide_eq_true_iff
theorem Kzq {X : Type} (F : Nat) (fail : X) (ex0 ex1 : Int → Int → List Jbw → Int → Int → Int → (List Jbw × Unit) → Bys → Bool → Jbw → List Bys → X) (K0 : X) (num : Int) (l : List Jbw) (first s5 left : Int) (ok : Bool) (out : List Bys) (h0 : ∀ (c : Int) (r : List Jbw × Unit) (pay : Bys) (p : Jbw), ex0 num c l first s5 left r pay ok p out = K0) :
  ∀ (m : Nat) (rs : List Jbw) (p : Jbw) (c : Nat) (pay : Bys), rs.length ≤ m → pay.length + 15 * (rs.length + 1) ≤ 1000000000 → c + rs.length ≤ 10000000 →
  Jqp F fail ex0 ex1 (m + 1) num c l first s5 left (rs, ()) pay ok p out = match (p :: rs).dropWhile Jdp with
   | [] => K0
   | q :: r => ex1 num ((c + ((p :: rs).takeWhile Jdp).length : Nat) : Int) l first s5 left (r, ()) (pay ++ Jf1 ((p :: rs).takeWhile Jdp)) ok q out := by
 intro m
 induction m with
 | zero =>
  intro rs p c pay hm hb hc
  have : rs = [] := List.length_eq_zero_iff.1 (by omega)
  subst this
  rw [Jqp, J85]
  by_cases hd : Jdp p = true
  ·have hl : ((p.drop 1).take 15).length ≤ 15 := by rw [List.length_take]; omega
   rw [List.dropWhile_cons, if_pos hd, Jaa (Jk8 (by rw [Jnq.1 hd]; rfl)), Jaa (Jch (by rw [List.length_append]; omega)), Jaa (by decide), h0]; rfl
  ·have hd' : Jdp p = false := by simpa using hd
   rw [List.dropWhile_cons, if_neg hd, List.takeWhile_cons, if_neg hd, Jab (Jl3 (fun e => hd (Jnq.2 (by omega))))]
   simp [Jf1]
 | succ m ih =>
  intro rs p c pay hm hb hc
  rw [Jqp, J85]
  by_cases hd : Jdp p = true
  ·have hl : ((p.drop 1).take 15).length ≤ 15 := by rw [List.length_take]; omega
   rw [List.dropWhile_cons, if_pos hd, List.takeWhile_cons, if_pos hd, Jaa (Jk8 (by rw [Jnq.1 hd]; rfl)), Jaa (Jch (by rw [List.length_append]; omega))]
   cases rs with
   | nil => rw [Jaa (by decide), h0]; rfl
   | cons q t =>
    have hm : t.length + 1 ≤ m + 1 := hm
    have hb : pay.length + 15 * (t.length + 1 + 1) ≤ 1000000000 := hb
    have hc : c + (t.length + 1) ≤ 10000000 := hc
    have e0 : ((q :: t, ()) : List Jbw × Unit).1.length = t.length + 1 := rfl
    rw [e0, Jab (by rw [tt (show ((t.length + 1 : Nat) : Int) > 0 by omega)]; rfl), Jaa (tt (by omega)), Jaa (tt (by omega)), Jai (by omega) (by omega), J2d]
    refine (ih t q (c + 1) (pay ++ (p.drop 1).take 15) (by omega) (by rw [List.length_append]; omega) (by omega)).trans ?_
    split
    ·rfl
    ·rw [Jqw, List.append_assoc, List.length_cons]
     congr 1
     omega
  ·rw [List.dropWhile_cons, if_neg hd, List.takeWhile_cons, if_neg hd, Jab (Jl3 (fun e => hd (Jnq.2 (by omega))))]
   simp [Jf1]
theorem Jnr (l : List Jbw) (num : Int) : (l.dropWhile Jdp = [] ∧ Jx1 l num = none) ∨ ∃ p r, l.dropWhile Jdp = p :: r ∧ ((Jzi p num (l.takeWhile Jdp).length (Jf1 (l.takeWhile Jdp)) = true ∧ Jx1 l num = some ((Jf1 (l.takeWhile Jdp)).take (fld p 8 4), r)) ∨ (Jzi p num (l.takeWhile Jdp).length (Jf1 (l.takeWhile Jdp)) = false ∧ Jx1 l num = none)) := by
 unfold Jx1
 cases h : l.dropWhile Jdp with
 | nil => exact .inl ⟨rfl, rfl⟩
 | cons p r =>
  refine .inr ⟨p, r, rfl, ?_⟩
  cases hk : Jzi p num (l.takeWhile Jdp).length (Jf1 (l.takeWhile Jdp)) with
  | true => exact .inl ⟨rfl, by simp [hk]⟩
  | false => exact .inr ⟨rfl, by simp [hk]⟩
theorem K40 (l : List Jbw) : (l.takeWhile Jdp).length + (l.dropWhile Jdp).length = l.length := by
 have := congrArg List.length (List.takeWhile_append_dropWhile (p := Jdp) (l := l))
 rwa [List.length_append] at this
theorem Ksl {l : List Jbw} {num : Int} {b : Bys} {r : List Jbw} (h : Jx1 l num = some (b, r)) : r.length < l.length := by
 rcases Jnr l num with ⟨_, e⟩ | ⟨p, r', hd, ⟨_, e⟩ | ⟨_, e⟩⟩
 ·rw [e] at h; cases h
 ·rw [e] at h; cases h
  have := K40 l
  rw [hd, List.length_cons] at this; omega
 ·rw [e] at h; cases h
theorem Qi8 {l : List Jbw} {num : Int} {b : Bys} {r : List Jbw} (h : Jx1 l num = some (b, r)) (hl : J1o l = true) : J1o r = true := by
 rcases Jnr l num with ⟨_, e⟩ | ⟨p, r', hd, ⟨_, e⟩ | ⟨_, e⟩⟩
 ·rw [e] at h; cases h
 ·rw [e] at h; cases h
  have := Kbm hl
  rw [hd] at this
  exact (Jlk.1 this).2
 ·rw [e] at h; cases h
theorem Jbf {X : Type} {c : Bool} {a b x : X} (h1 : c = true) (h2 : a = x) : (bif c then a else b) = x := (Jaa h1 _ _).trans h2
theorem Jex {X : Type} {c : Bool} {a b x : X} (h1 : c = false) (h2 : b = x) : (bif c then a else b) = x := (Jab h1 _ _).trans h2
theorem Kzr {X : Type} (F : Nat) (fail : X) (ex0 : List Jbw → Int → Int → List Bys → (List Jbw × Unit) → X) (K : Int → List Bys → X) (l : List Jbw) (first : Int) (hf : 1 ≤ first ∧ first ≤ 8192) (hl : l.length ≤ 1000000) (hF : l.length < F) (h0 : ∀ s out r, ex0 l first s out r = K s out) :
  ∀ (n m : Nat) (rs : List Jbw) (out : List Bys), rs.length ≤ n → n ≤ m → rs.length ≤ l.length → out.length + rs.length ≤ l.length → J1o rs = true →
  Jqq F fail ex0 (m + 1) l first 0 out (rs, ()) = K ((l.length : Int) - ((Jnl n rs (first + out.length)).2.length : Int)) (out ++ (Jnl n rs (first + out.length)).1) := by
 intro n
 induction n with
 | zero =>
  intro m rs out hn _ _ _ _
  have : rs = [] := List.length_eq_zero_iff.1 (by omega)
  subst this
  rw [Jqq, J86]
  rw [Jaa (by decide), h0, Jca (by simp) (by simp; omega), show Jnl 0 [] (first + out.length) = ([], []) from rfl, List.append_nil]
 | succ n ih =>
  intro m rs out hn hm hr ho h16
  obtain ⟨m', rfl⟩ : ∃ m', m = m' + 1 := ⟨m - 1, by omega⟩
  rw [Jqq, J86]
  have none_ : Jx1 rs (first + out.length) = none → Jnl (n + 1) rs (first + out.length) = ([], rs) := fun e => by rw [Jnl, e]
  cases rs with
  | nil =>
   rw [none_ rfl, Jaa (by decide), h0, Jca (by simp) (by simp; omega), List.append_nil]
  | cons p t =>
   have hn : t.length + 1 ≤ n + 1 := hn
   have hr : t.length + 1 ≤ l.length := hr
   have ho : out.length + (t.length + 1) ≤ l.length := ho
   have e0 : ((p :: t, ()) : List Jbw × Unit).1.length = t.length + 1 := rfl
   have hlen : (p :: t).length = t.length + 1 := rfl
   rw [e0, Jab (by rw [tt (show ((t.length + 1 : Nat) : Int) > 0 by omega)]; rfl), Jaa (tt (by omega)), Jaa (tt (by omega)), Jai (by omega) (by omega)]
   obtain ⟨F', rfl⟩ : ∃ F', F = F' + 1 := ⟨F - 1, by omega⟩
   have hsub : Jby (l.length : Int) ((t.length + 1 : Nat) : Int) = (l.length : Int) - ((p :: t).length : Int) := by rw [Jca (by omega) (by omega)]; rfl
   have dead : Jx1 (p :: t) (first + out.length) = none → ex0 l first (Jby (l.length : Int) ((t.length + 1 : Nat) : Int)) out (t, ()) = K ((l.length : Int) - ((Jnl (n + 1) (p :: t) (first + out.length)).2.length : Int)) (out ++ (Jnl (n + 1) (p :: t) (first + out.length)).1) := fun e => by
    rw [none_ e, h0, hsub, List.append_nil]
   refine (Kzq (F' + 1) fail _ _ (K ((l.length : Int) - ((p :: t).length : Int)) out) (first + out.length) l first 0 ((t.length + 1 : Nat) : Int) false out (fun _ _ _ _ => by rw [h0, hsub]) F' t p 0 [] (by omega) (by simp; omega) (by omega)).trans ?_
   rcases Jnr (p :: t) (first + out.length) with ⟨hd, e⟩ | ⟨q, r, hd, hc⟩
   ·rw [hd, none_ e, List.append_nil]
   rw [hd]
   have hq := K40 (p :: t)
   rw [hd, List.length_cons] at hq
   have hp16 := J2o (Kbl h16)
   generalize hps : (p :: t).takeWhile Jdp = ps at hc hq hp16 ⊢
   generalize hpay : Jf1 ps = pay at hc hp16 ⊢
   have hpsl : ps.length ≤ 1000000 := by rw [hlen] at hq; omega
   simp only [List.nil_append, Nat.zero_add]
   have v8 : Jck ((q.drop 8).take 4) = ((fld q 8 4 : Nat) : Int) := rfl
   have v1 : Jck ((q.drop 1).take 4) = ((fld q 1 4 : Nat) : Int) := rfl
   have v5 : Jck ((q.drop 5).take 3) = ((fld q 5 3 : Nat) : Int) := rfl
   have v12 : Jck ((q.drop 12).take 4) = ((fld q 12 4 : Nat) : Int) := rfl
   have pv : ∀ a k, k ≤ 7 → Jo0 ((q.drop a).take k) = true := fun a k hk => tt (by rw [List.length_take]; omega)
   rw [v8, v1, v5, v12, Int.toNat_natCast, pv 8 4 (by omega), pv 1 4 (by omega), pv 5 3 (by omega), pv 12 4 (by omega), cond_true]
   have deadr : ∀ r', Jzi q (first + out.length) ps.length pay = false → ex0 l first (Jby (l.length : Int) ((t.length + 1 : Nat) : Int)) out r' = K ((l.length : Int) - ((Jnl (n + 1) (p :: t) (first + out.length)).2.length : Int)) (out ++ (Jnl (n + 1) (p :: t) (first + out.length)).1) := fun r' hk => by
    rcases hc with ⟨hk', _⟩ | ⟨_, e⟩
    ·rw [hk] at hk'; cases hk'
    ·rw [none_ e, h0, hsub, List.append_nil]
   by_cases c1 : (q.getD 0 0).toNat = 2
   case neg => exact Jex (Jl3 (by omega)) (deadr _ (by unfold Jzi; rw [ff (fun h => c1 h.1)]; rfl))
   refine Jbf (Jk8 (by omega)) (Jbf rfl ?_)
   by_cases c2 : (fld q 1 4 : Int) = first + out.length
   case neg => exact Jex (Jl3 c2) (deadr _ (by unfold Jzi; rw [ff (fun h => c2 h.2.1)]; rfl))
   refine Jbf (Jk8 c2) (Jbf rfl ?_)
   by_cases c3 : fld q 5 3 = ps.length
   case neg => exact Jex (Jl3 (by omega)) (deadr _ (by unfold Jzi; rw [ff (fun h => c3 h.2.2.1)]; rfl))
   refine Jbf (Jk8 (by omega)) ?_
   by_cases c4 : fld q 8 4 ≤ 65536
   case neg => exact Jex (ff (by omega)) (deadr _ (by unfold Jzi; rw [ff (fun h => c4 h.2.2.2.1)]; rfl))
   have hnp : Jjs ((fld q 8 4 : Nat) : Int) = true := tt (by omega)
   have hnr : Jh4 ((fld q 8 4 : Nat) : Int) = ((Jco (fld q 8 4) : Nat) : Int) := rfl
   refine Jbf (tt (by omega)) (Jbf hnp ?_)
   rw [hnr]
   by_cases c5 : Jco (fld q 8 4) = ps.length
   case neg => exact Jbf (by rw [Jl3 (by omega)]; rfl) (deadr _ (by unfold Jzi; rw [ff (fun h => c5 h.2.2.2.2)]; rfl))
   have hle : fld q 8 4 ≤ pay.length := by unfold Jco at c5; omega
   have hcf : K60 ((pay.drop (fld q 8 4)).take (pay.length - fld q 8 4)) 64 = true := tt (by rw [List.length_take, List.length_drop]; omega)
   have hdr : (pay.drop (fld q 8 4)).take (pay.length - fld q 8 4) = pay.drop (fld q 8 4) := List.take_of_length_le (by rw [List.length_drop]; exact Nat.le_refl _)
   refine Jex (by rw [Jk8 (by omega)]; rfl) (Jbf (tt2 (by omega) (by omega)) (Jbf (by rw [tt2 (show (0 : Int) ≤ ((fld q 8 4 : Nat) : Int) by omega) (show ((fld q 8 4 : Nat) : Int) ≤ (pay.length : Int) by omega), Jk8 rfl]; rfl) (Jbf hcf ?_)))
   rw [hdr]
   unfold K61
   have okc : Jzi q (first + out.length) ps.length pay = (!Jnk (pay.drop (fld q 8 4)) && decide (fld q 12 4 = K9r (pay.take (fld q 8 4)))) := by
    unfold Jzi; rw [tt (show (q.getD 0 0).toNat = 2 ∧ (fld q 1 4 : Int) = first + out.length ∧ fld q 5 3 = ps.length ∧ fld q 8 4 ≤ 65536 ∧ Jco (fld q 8 4) = ps.length from ⟨c1, c2, c3, c4, c5⟩), Bool.true_and]
   cases c6 : Jnk (pay.drop (fld q 8 4)) with
   | true => exact Jex rfl (deadr _ (by rw [okc, c6]; rfl))
   | false =>
    have hcs : Kih (pay.take (fld q 8 4)) = true := tt (by rw [List.length_take]; omega)
    refine Jbf rfl (Jbf rfl (Jbf hcs ?_))
    rw [Km7]
    by_cases c7 : fld q 12 4 = K9r (pay.take (fld q 8 4))
    case neg => exact Jbf (by rw [Jl3 (by omega)]; rfl) (deadr _ (by rw [okc, c6, ff c7]; rfl))
    refine Jex (by rw [Jk8 (by omega)]; rfl) (Jbf (Jch (by rw [List.length_append, List.length_singleton]; omega)) ?_)
    rcases hc with ⟨_, e⟩ | ⟨hk, _⟩
    ·have hrl : r.length ≤ n := by rw [hlen] at hq; omega
     have := ih m' r (out ++ [pay.take (fld q 8 4)]) hrl (by omega) (by rw [hlen] at hq; omega) (by rw [List.length_append, List.length_singleton]; rw [hlen] at hq; omega) (Qi8 e h16)
     have hnum : first + ((out ++ [pay.take (fld q 8 4)]).length : Int) = first + out.length + 1 := by rw [List.length_append, List.length_singleton]; omega
     rw [hnum] at this
     refine this.trans ?_
     rw [Jnl, e]
     simp only [List.append_assoc, List.singleton_append]
    ·rw [okc, c6, tt c7] at hk; cases hk
theorem Kzs (l : List Jbw) (first : Int) (h : Juh l first = true) : ∃ F, ∀ {X : Type} (fail : X) (ret : List Bys → Int → X), Qmd F l first fail ret = ret (J1p l first) (Jgk l first) := ⟨l.length + 1, fun fail ret => by
 simp only [Juh, Bool.and_eq_true, decide_eq_true_eq] at h
 unfold Qmd J1p Jgk Kfd
 by_cases c1 : first < 1
 ·rw [Jaa (tt c1), if_neg (by omega), Int.sub_self]
 by_cases c2 : first > 8192
 ·rw [Jab (ff c1), Jaa (tt c2), if_neg (by omega), Int.sub_self]
 rw [Jab (ff c1), Jab (ff c2), if_pos (by omega)]
 have := Kzr (l.length + 1) fail (fun _ _ s out _ => ret out s) (fun s out => ret out s) l first (by omega) h.1 (by omega) (fun _ _ _ => rfl) l.length l.length l [] (Nat.le_refl _) (Nat.le_refl _) (Nat.le_refl _) (by simp) h.2
 simp only [List.length_nil, List.nil_append] at this
 rw [show first + ((0 : Nat) : Int) = first by omega] at this
 exact this⟩
end Go.AI
