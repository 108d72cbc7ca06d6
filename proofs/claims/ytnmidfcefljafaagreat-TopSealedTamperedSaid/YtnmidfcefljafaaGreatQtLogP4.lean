/- Texts of the proof, joined: LogP4. -/
import Derived.Test.YtnmidfcefljafaaGreatQtLogP3
namespace Go.AI
open Go
theorem cfB_loop {X : Type} (F : Nat) (fail : X) (ex0 ex1 : Bys → Int → Int → Int → X) (kt kf : X) (s : Bys) (hs : s.length ≤ 1000000000) (h0 : ∀ i : Nat, ex0 s i (s.length : Nat) i = kt) (h1 : ∀ a i : Int, ex1 s a (s.length : Nat) i = kf) : ∀ (j m i : Nat) (s4 : Int), i + j = s.length → j ≤ m →
  cfB_0_l1F F fail ex0 ex1 (m + 1) s s4 (s.length : Nat) i = if nonZero (s.drop i) = true then kt else kf
 | 0, m, i, s4, hi, _ => by
  rw [cfB_0_l1F, cfB_0_l1]
  rw [bif_false (ff (by omega)), h1, List.drop_eq_nil_of_le (by omega)]; rfl
 | j + 1, 0, i, _, _, hm => absurd hm (by omega)
 | j + 1, m + 1, i, s4, hi, hm => by
  have ih := cfB_loop F fail ex0 ex1 kt kf s hs h0 h1 j m (i + 1) s4 (by omega) (by omega)
  rw [cfB_0_l1F, cfB_0_l1]
  rw [Int.toNat_natCast, bif_true (tt (by omega)), bif_true (tt2 (by omega) (by omega)), drop_cons (0 : UInt8) (show i < s.length by omega)]
  have e : nonZero (s.getD i 0 :: s.drop (i + 1)) = (decide ((s.getD i 0).toNat ≠ 0) || nonZero (s.drop (i + 1))) := rfl
  rw [e]
  by_cases c : (s.getD i 0).toNat = 0
  ·rw [ff (show ¬ (s.getD i 0).toNat ≠ 0 by omega), Bool.false_or, bif_false (bne_f (by omega)), addI_eq (by omega) (by omega), nat1]
   exact ih
  ·rw [tt c, Bool.true_or, bif_true (bne_t (by omega)), h0]; rfl
theorem cfB_0_plain (s : Bys) (h : cfB_P s 64 = true) : ∃ F, ∀ {X : Type} (fail : X) (ret : Bool → X), cfB_0 F s fail ret = ret (cfB_r s 64) := ⟨s.length + 1, fun fail ret => by
 simp only [cfB_P, decide_eq_true_eq] at h
 unfold cfB_0 cfB_r
 refine (cfB_loop (s.length + 1) fail _ _ (ret true) (ret false) s h (fun i => congrArg ret (tt (by omega))) (fun _ _ => rfl) s.length s.length 0 0 (by omega) (by omega)).trans ?_
 rw [List.drop_zero]
 cases nonZero s <;> rfl⟩
theorem payOf_cons (p : Page) (l : List Page) : payOf (p :: l) = (p.drop 1).take 15 ++ payOf l := rfl
theorem pg16_cons {p : Page} {l : List Page} : pg16 (p :: l) = true ↔ p.length = 16 ∧ pg16 l = true := by
 unfold pg16; rw [List.all_cons, Bool.and_eq_true, decide_eq_true_iff]
theorem payOf_len : ∀ {l : List Page}, pg16 l = true → (payOf l).length = 15 * l.length
 | [], _ => rfl
 | p :: l, h => by
  have h := pg16_cons.1 h
  rw [payOf_cons, List.length_append, List.length_take, List.length_drop, payOf_len h.2, List.length_cons]; omega
theorem pg16_take : ∀ {l : List Page}, pg16 l = true → pg16 (l.takeWhile isDat) = true
 | [], _ => rfl
 | p :: l, h => by
  rw [List.takeWhile_cons]
  have h := pg16_cons.1 h
  split
  ·exact pg16_cons.2 ⟨h.1, pg16_take h.2⟩
  ·rfl
theorem pg16_drop : ∀ {l : List Page}, pg16 l = true → pg16 (l.dropWhile isDat) = true
 | [], _ => rfl
 | p :: l, h => by
  rw [List.dropWhile_cons]
  split
  ·exact pg16_drop (pg16_cons.1 h).2
  ·exact h
theorem isDat_iff {p : Page} : isDat p = true ↔ (p.getD 0 0).toNat = 1 := by unfold isDat; exact decide_eq_true_iff
theorem lScan_loop2 {X : Type} (F : Nat) (fail : X) (ex0 ex1 : Int → Int → List Page → Int → Int → Int → (List Page × Unit) → Bys → Bool → Page → List Bys → X) (K0 : X) (num : Int) (l : List Page) (first s5 left : Int) (ok : Bool) (out : List Bys) (h0 : ∀ (c : Int) (r : List Page × Unit) (pay : Bys) (p : Page), ex0 num c l first s5 left r pay ok p out = K0) :
  ∀ (m : Nat) (rs : List Page) (p : Page) (c : Nat) (pay : Bys), rs.length ≤ m → pay.length + 15 * (rs.length + 1) ≤ 1000000000 → c + rs.length ≤ 10000000 →
  lScan_l2F F fail ex0 ex1 (m + 1) num c l first s5 left (rs, ()) pay ok p out = match (p :: rs).dropWhile isDat with
   | [] => K0
   | q :: r => ex1 num ((c + ((p :: rs).takeWhile isDat).length : Nat) : Int) l first s5 left (r, ()) (pay ++ payOf ((p :: rs).takeWhile isDat)) ok q out := by
 intro m
 induction m with
 | zero =>
  intro rs p c pay hm hb hc
  have : rs = [] := List.length_eq_zero_iff.1 (by omega)
  subst this
  rw [lScan_l2F, lScan_l2]
  by_cases hd : isDat p = true
  ·have hl : ((p.drop 1).take 15).length ≤ 15 := by rw [List.length_take]; omega
   rw [List.dropWhile_cons, if_pos hd, bif_true (beq_t (by rw [isDat_iff.1 hd]; rfl)), bif_true (le_big (by rw [List.length_append]; omega)), bif_true (by decide), h0]; rfl
  ·have hd' : isDat p = false := by simpa using hd
   rw [List.dropWhile_cons, if_neg hd, List.takeWhile_cons, if_neg hd, bif_false (beq_f (fun e => hd (isDat_iff.2 (by omega))))]
   simp [payOf]
 | succ m ih =>
  intro rs p c pay hm hb hc
  rw [lScan_l2F, lScan_l2]
  by_cases hd : isDat p = true
  ·have hl : ((p.drop 1).take 15).length ≤ 15 := by rw [List.length_take]; omega
   rw [List.dropWhile_cons, if_pos hd, List.takeWhile_cons, if_pos hd, bif_true (beq_t (by rw [isDat_iff.1 hd]; rfl)), bif_true (le_big (by rw [List.length_append]; omega))]
   cases rs with
   | nil => rw [bif_true (by decide), h0]; rfl
   | cons q t =>
    have hm : t.length + 1 ≤ m + 1 := hm
    have hb : pay.length + 15 * (t.length + 1 + 1) ≤ 1000000000 := hb
    have hc : c + (t.length + 1) ≤ 10000000 := hc
    have e0 : ((q :: t, ()) : List Page × Unit).1.length = t.length + 1 := rfl
    rw [e0, bif_false (by rw [tt (show ((t.length + 1 : Nat) : Int) > 0 by omega)]; rfl), bif_true (tt (by omega)), bif_true (tt (by omega)), addI_eq (by omega) (by omega), nat1]
    refine (ih t q (c + 1) (pay ++ (p.drop 1).take 15) (by omega) (by rw [List.length_append]; omega) (by omega)).trans ?_
    split
    ·rfl
    ·rw [payOf_cons, List.append_assoc, List.length_cons]
     congr 1
     omega
  ·rw [List.dropWhile_cons, if_neg hd, List.takeWhile_cons, if_neg hd, bif_false (beq_f (fun e => hd (isDat_iff.2 (by omega))))]
   simp [payOf]
theorem readP_cases (l : List Page) (num : Int) : (l.dropWhile isDat = [] ∧ readP l num = none) ∨ ∃ p r, l.dropWhile isDat = p :: r ∧ ((okCom p num (l.takeWhile isDat).length (payOf (l.takeWhile isDat)) = true ∧ readP l num = some ((payOf (l.takeWhile isDat)).take (fld p 8 4), r)) ∨ (okCom p num (l.takeWhile isDat).length (payOf (l.takeWhile isDat)) = false ∧ readP l num = none)) := by
 unfold readP
 cases h : l.dropWhile isDat with
 | nil => exact .inl ⟨rfl, rfl⟩
 | cons p r =>
  refine .inr ⟨p, r, rfl, ?_⟩
  cases hk : okCom p num (l.takeWhile isDat).length (payOf (l.takeWhile isDat)) with
  | true => exact .inl ⟨rfl, by simp [hk]⟩
  | false => exact .inr ⟨rfl, by simp [hk]⟩
theorem dw_len (l : List Page) : (l.takeWhile isDat).length + (l.dropWhile isDat).length = l.length := by
 have := congrArg List.length (List.takeWhile_append_dropWhile (p := isDat) (l := l))
 rwa [List.length_append] at this
theorem readP_len {l : List Page} {num : Int} {b : Bys} {r : List Page} (h : readP l num = some (b, r)) : r.length < l.length := by
 rcases readP_cases l num with ⟨_, e⟩ | ⟨p, r', hd, ⟨_, e⟩ | ⟨_, e⟩⟩
 ·rw [e] at h; cases h
 ·rw [e] at h; cases h
  have := dw_len l
  rw [hd, List.length_cons] at this; omega
 ·rw [e] at h; cases h
theorem readP_16 {l : List Page} {num : Int} {b : Bys} {r : List Page} (h : readP l num = some (b, r)) (hl : pg16 l = true) : pg16 r = true := by
 rcases readP_cases l num with ⟨_, e⟩ | ⟨p, r', hd, ⟨_, e⟩ | ⟨_, e⟩⟩
 ·rw [e] at h; cases h
 ·rw [e] at h; cases h
  have := pg16_drop hl
  rw [hd] at this
  exact (pg16_cons.1 this).2
 ·rw [e] at h; cases h
theorem bif_eq_t {X : Type} {c : Bool} {a b x : X} (h1 : c = true) (h2 : a = x) : (bif c then a else b) = x := (bif_true h1 _ _).trans h2
theorem bif_eq_f {X : Type} {c : Bool} {a b x : X} (h1 : c = false) (h2 : b = x) : (bif c then a else b) = x := (bif_false h1 _ _).trans h2
theorem lScan_loop1 {X : Type} (F : Nat) (fail : X) (ex0 : List Page → Int → Int → List Bys → (List Page × Unit) → X) (K : Int → List Bys → X) (l : List Page) (first : Int) (hf : 1 ≤ first ∧ first ≤ 8192) (hl : l.length ≤ 1000000) (hF : l.length < F) (h0 : ∀ s out r, ex0 l first s out r = K s out) :
  ∀ (n m : Nat) (rs : List Page) (out : List Bys), rs.length ≤ n → n ≤ m → rs.length ≤ l.length → out.length + rs.length ≤ l.length → pg16 rs = true →
  lScan_l1F F fail ex0 (m + 1) l first 0 out (rs, ()) = K ((l.length : Int) - ((scanF n rs (first + out.length)).2.length : Int)) (out ++ (scanF n rs (first + out.length)).1) := by
 intro n
 induction n with
 | zero =>
  intro m rs out hn _ _ _ _
  have : rs = [] := List.length_eq_zero_iff.1 (by omega)
  subst this
  rw [lScan_l1F, lScan_l1]
  rw [bif_true (by decide), h0, subI_eq (by simp) (by simp; omega), show scanF 0 [] (first + out.length) = ([], []) from rfl, List.append_nil]
 | succ n ih =>
  intro m rs out hn hm hr ho h16
  obtain ⟨m', rfl⟩ : ∃ m', m = m' + 1 := ⟨m - 1, by omega⟩
  rw [lScan_l1F, lScan_l1]
  have none_ : readP rs (first + out.length) = none → scanF (n + 1) rs (first + out.length) = ([], rs) := fun e => by rw [scanF, e]
  cases rs with
  | nil =>
   rw [none_ rfl, bif_true (by decide), h0, subI_eq (by simp) (by simp; omega), List.append_nil]
  | cons p t =>
   have hn : t.length + 1 ≤ n + 1 := hn
   have hr : t.length + 1 ≤ l.length := hr
   have ho : out.length + (t.length + 1) ≤ l.length := ho
   have e0 : ((p :: t, ()) : List Page × Unit).1.length = t.length + 1 := rfl
   have hlen : (p :: t).length = t.length + 1 := rfl
   rw [e0, bif_false (by rw [tt (show ((t.length + 1 : Nat) : Int) > 0 by omega)]; rfl), bif_true (tt (by omega)), bif_true (tt (by omega)), addI_eq (by omega) (by omega)]
   obtain ⟨F', rfl⟩ : ∃ F', F = F' + 1 := ⟨F - 1, by omega⟩
   have hsub : subI (l.length : Int) ((t.length + 1 : Nat) : Int) = (l.length : Int) - ((p :: t).length : Int) := by rw [subI_eq (by omega) (by omega)]; rfl
   have dead : readP (p :: t) (first + out.length) = none → ex0 l first (subI (l.length : Int) ((t.length + 1 : Nat) : Int)) out (t, ()) = K ((l.length : Int) - ((scanF (n + 1) (p :: t) (first + out.length)).2.length : Int)) (out ++ (scanF (n + 1) (p :: t) (first + out.length)).1) := fun e => by
    rw [none_ e, h0, hsub, List.append_nil]
   refine (lScan_loop2 (F' + 1) fail _ _ (K ((l.length : Int) - ((p :: t).length : Int)) out) (first + out.length) l first 0 ((t.length + 1 : Nat) : Int) false out (fun _ _ _ _ => by rw [h0, hsub]) F' t p 0 [] (by omega) (by simp; omega) (by omega)).trans ?_
   rcases readP_cases (p :: t) (first + out.length) with ⟨hd, e⟩ | ⟨q, r, hd, hc⟩
   ·rw [hd, none_ e, List.append_nil]
   rw [hd]
   have hq := dw_len (p :: t)
   rw [hd, List.length_cons] at hq
   have hp16 := payOf_len (pg16_take h16)
   generalize hps : (p :: t).takeWhile isDat = ps at hc hq hp16 ⊢
   generalize hpay : payOf ps = pay at hc hp16 ⊢
   have hpsl : ps.length ≤ 1000000 := by rw [hlen] at hq; omega
   simp only [List.nil_append, Nat.zero_add]
   have v8 : lValue_r ((q.drop 8).take 4) = ((fld q 8 4 : Nat) : Int) := rfl
   have v1 : lValue_r ((q.drop 1).take 4) = ((fld q 1 4 : Nat) : Int) := rfl
   have v5 : lValue_r ((q.drop 5).take 3) = ((fld q 5 3 : Nat) : Int) := rfl
   have v12 : lValue_r ((q.drop 12).take 4) = ((fld q 12 4 : Nat) : Int) := rfl
   have pv : ∀ a k, k ≤ 7 → lValue_P ((q.drop a).take k) = true := fun a k hk => tt (by rw [List.length_take]; omega)
   rw [v8, v1, v5, v12, Int.toNat_natCast, pv 8 4 (by omega), pv 1 4 (by omega), pv 5 3 (by omega), pv 12 4 (by omega), cond_true]
   have deadr : ∀ r', okCom q (first + out.length) ps.length pay = false → ex0 l first (subI (l.length : Int) ((t.length + 1 : Nat) : Int)) out r' = K ((l.length : Int) - ((scanF (n + 1) (p :: t) (first + out.length)).2.length : Int)) (out ++ (scanF (n + 1) (p :: t) (first + out.length)).1) := fun r' hk => by
    rcases hc with ⟨hk', _⟩ | ⟨_, e⟩
    ·rw [hk] at hk'; cases hk'
    ·rw [none_ e, h0, hsub, List.append_nil]
   by_cases c1 : (q.getD 0 0).toNat = 2
   case neg => exact bif_eq_f (beq_f (by omega)) (deadr _ (by unfold okCom; rw [ff (fun h => c1 h.1)]; rfl))
   refine bif_eq_t (beq_t (by omega)) (bif_eq_t rfl ?_)
   by_cases c2 : (fld q 1 4 : Int) = first + out.length
   case neg => exact bif_eq_f (beq_f c2) (deadr _ (by unfold okCom; rw [ff (fun h => c2 h.2.1)]; rfl))
   refine bif_eq_t (beq_t c2) (bif_eq_t rfl ?_)
   by_cases c3 : fld q 5 3 = ps.length
   case neg => exact bif_eq_f (beq_f (by omega)) (deadr _ (by unfold okCom; rw [ff (fun h => c3 h.2.2.1)]; rfl))
   refine bif_eq_t (beq_t (by omega)) ?_
   by_cases c4 : fld q 8 4 ≤ 65536
   case neg => exact bif_eq_f (ff (by omega)) (deadr _ (by unfold okCom; rw [ff (fun h => c4 h.2.2.2.1)]; rfl))
   have hnp : needed_P ((fld q 8 4 : Nat) : Int) = true := tt (by omega)
   have hnr : needed_r ((fld q 8 4 : Nat) : Int) = ((needN (fld q 8 4) : Nat) : Int) := rfl
   refine bif_eq_t (tt (by omega)) (bif_eq_t hnp ?_)
   rw [hnr]
   by_cases c5 : needN (fld q 8 4) = ps.length
   case neg => exact bif_eq_t (by rw [beq_f (by omega)]; rfl) (deadr _ (by unfold okCom; rw [ff (fun h => c5 h.2.2.2.2)]; rfl))
   have hle : fld q 8 4 ≤ pay.length := by unfold needN at c5; omega
   have hcf : cfB_P ((pay.drop (fld q 8 4)).take (pay.length - fld q 8 4)) 64 = true := tt (by rw [List.length_take, List.length_drop]; omega)
   have hdr : (pay.drop (fld q 8 4)).take (pay.length - fld q 8 4) = pay.drop (fld q 8 4) := List.take_of_length_le (by rw [List.length_drop]; exact Nat.le_refl _)
   refine bif_eq_f (by rw [beq_t (by omega)]; rfl) (bif_eq_t (tt2 (by omega) (by omega)) (bif_eq_t (by rw [tt2 (show (0 : Int) ≤ ((fld q 8 4 : Nat) : Int) by omega) (show ((fld q 8 4 : Nat) : Int) ≤ (pay.length : Int) by omega), beq_t rfl]; rfl) (bif_eq_t hcf ?_)))
   rw [hdr]
   unfold cfB_r
   have okc : okCom q (first + out.length) ps.length pay = (!nonZero (pay.drop (fld q 8 4)) && decide (fld q 12 4 = crcN (pay.take (fld q 8 4)))) := by
    unfold okCom; rw [tt (show (q.getD 0 0).toNat = 2 ∧ (fld q 1 4 : Int) = first + out.length ∧ fld q 5 3 = ps.length ∧ fld q 8 4 ≤ 65536 ∧ needN (fld q 8 4) = ps.length from ⟨c1, c2, c3, c4, c5⟩), Bool.true_and]
   cases c6 : nonZero (pay.drop (fld q 8 4)) with
   | true => exact bif_eq_f rfl (deadr _ (by rw [okc, c6]; rfl))
   | false =>
    have hcs : cSum_P (pay.take (fld q 8 4)) = true := tt (by rw [List.length_take]; omega)
    refine bif_eq_t rfl (bif_eq_t rfl (bif_eq_t hcs ?_))
    rw [cSum_nat]
    by_cases c7 : fld q 12 4 = crcN (pay.take (fld q 8 4))
    case neg => exact bif_eq_t (by rw [beq_f (by omega)]; rfl) (deadr _ (by rw [okc, c6, ff c7]; rfl))
    refine bif_eq_f (by rw [beq_t (by omega)]; rfl) (bif_eq_t (le_big (by rw [List.length_append, List.length_singleton]; omega)) ?_)
    rcases hc with ⟨_, e⟩ | ⟨hk, _⟩
    ·have hrl : r.length ≤ n := by rw [hlen] at hq; omega
     have := ih m' r (out ++ [pay.take (fld q 8 4)]) hrl (by omega) (by rw [hlen] at hq; omega) (by rw [List.length_append, List.length_singleton]; rw [hlen] at hq; omega) (readP_16 e h16)
     have hnum : first + ((out ++ [pay.take (fld q 8 4)]).length : Int) = first + out.length + 1 := by rw [List.length_append, List.length_singleton]; omega
     rw [hnum] at this
     refine this.trans ?_
     rw [scanF, e]
     simp only [List.append_assoc, List.singleton_append]
    ·rw [okc, c6, tt c7] at hk; cases hk
theorem lScan_plain (l : List Page) (first : Int) (h : lScan_P l first = true) : ∃ F, ∀ {X : Type} (fail : X) (ret : List Bys → Int → X), lScan F l first fail ret = ret (lScan_r0 l first) (lScan_r1 l first) := ⟨l.length + 1, fun fail ret => by
 simp only [lScan_P, Bool.and_eq_true, decide_eq_true_eq] at h
 unfold lScan lScan_r0 lScan_r1 scanP
 by_cases c1 : first < 1
 ·rw [bif_true (tt c1), if_neg (by omega), Int.sub_self]
 by_cases c2 : first > 8192
 ·rw [bif_false (ff c1), bif_true (tt c2), if_neg (by omega), Int.sub_self]
 rw [bif_false (ff c1), bif_false (ff c2), if_pos (by omega)]
 have := lScan_loop1 (l.length + 1) fail (fun _ _ s out _ => ret out s) (fun s out => ret out s) l first (by omega) h.1 (by omega) (fun _ _ _ => rfl) l.length l.length l [] (Nat.le_refl _) (Nat.le_refl _) (Nat.le_refl _) (by simp) h.2
 simp only [List.length_nil, List.nil_append] at this
 rw [show first + ((0 : Nat) : Int) = first by omega] at this
 exact this⟩
end Go.AI
