/- What the printed functions of the reference of fragments answer. -/
import Derived.Test.YtlilfooddecabaaFragP2
namespace Go.AI
open Go

theorem qFew_plain (f : Frg) : ∃ F, ∀ {X : Type} (fail : X) (ret : Bool → X), qFew F f fail ret = ret (qFew_r f) := ⟨0, fun fail ret => by
  unfold qFew qFew_r
  congr 1
  by_cases c : f.1.length ≤ 100
  · rw [tt c, tt (by omega)]
  · rw [ff c, ff (by omega)]⟩
theorem hasI_cons (x : Itm) (l : List Itm) (d : List UInt8) (n : Int) : hasI (x :: l) d n = (isI d n x || hasI l d n) := rfl
theorem qfind_loop {X : Type} (F : Nat) (fail : X) (ex0 ex1 : List Itm → Int → Int → Int → List UInt8 → X) (K : Int → X) (l : List Itm) (d : List UInt8) (n : Int) (hl : l.length ≤ 1000000000) (h0 : ∀ i j : Int, ex0 l n i j d = K i) (h1 : ∀ s j : Int, ex1 l n s j d = K (-1)) : ∀ (j m i : Nat) (s : Int), i + j = l.length → j ≤ m →
    qfind_l1F F fail ex0 ex1 (m + 1) l n s i d = K (if hasI (l.drop i) d n then ((i + idxI d n (l.drop i) : Nat) : Int) else -1)
  | 0, m, i, s, hi, _ => by
    have e : i = l.length := by omega
    subst e
    rw [qfind_l1F, qfind_l1]
    rw [bif_false (ff (by omega)), List.drop_length, h1]; rfl
  | j + 1, 0, i, _, _, hm => absurd hm (by omega)
  | j + 1, m + 1, i, s, hi, hm => by
    have ih := qfind_loop F fail ex0 ex1 K l d n hl h0 h1 j m (i + 1) s (by omega) (by omega)
    rw [qfind_l1F, qfind_l1]
    rw [Int.toNat_natCast, bif_true (tt (by omega)), bif_true (tt2 (by omega) (by omega)), drop_cons itm0 (show i < l.length by omega), hasI_cons, idxI, beqT_dec (.arr 32 (.int .u8)) rfl]
    have eb : (decide ((0 : Int) ≤ (i : Int)) && decide ((i : Int) < ((l.length : Nat) : Int))) = true := tt2 (by omega) (by omega)
    by_cases c1 : (l.getD i itm0).1 = d
    · refine (bif_true (tt c1) _ _).trans ((bif_true eb _ _).trans ?_)
      by_cases c2 : (l.getD i itm0).2.1 = n
      · refine (bif_true (beq_t c2) _ _).trans ?_
        rw [h0, isI_iff.2 ⟨c1, c2⟩]; rfl
      · refine (bif_false (beq_f c2) _ _).trans ?_
        rw [addI_eq (by omega) (by omega), nat1, ih, show isI d n (l.getD i itm0) = false from ff (fun c => c2 c.2), Bool.false_or]
        simp only [Bool.false_eq_true, if_false]
        rw [show i + 1 + idxI d n (l.drop (i + 1)) = i + (idxI d n (l.drop (i + 1)) + 1) by omega]
    · refine (bif_false (ff c1) _ _).trans ?_
      rw [addI_eq (by omega) (by omega), nat1, ih, show isI d n (l.getD i itm0) = false from ff (fun c => c1 c.1), Bool.false_or]
      simp only [Bool.false_eq_true, if_false]
      rw [show i + 1 + idxI d n (l.drop (i + 1)) = i + (idxI d n (l.drop (i + 1)) + 1) by omega]
theorem qfind_plain (l : List Itm) (d : List UInt8) (n : Int) (h : qfind_P l d n = true) : ∃ F, ∀ {X : Type} (fail : X) (ret : Int → X), qfind F l d n fail ret = ret (qfind_r l d n) := ⟨l.length + 1, fun fail ret => by
  simp only [qfind_P, decide_eq_true_eq] at h
  unfold qfind qfind_r
  refine (qfind_loop (l.length + 1) fail _ _ ret l d n h (fun _ _ => rfl) (fun _ _ => rfl) l.length _ 0 0 (by omega) (by omega)).trans ?_
  rw [List.drop_zero, Nat.zero_add]⟩
theorem qplace_plain (len block at_ : Int) (h : qplace_P len block at_ = true) : ∃ F, ∀ {X : Type} (fail : X) (ret : Bool → X), qplace F len block at_ fail ret = ret (qplace_r len block at_) := ⟨0, fun fail ret => by
  have h := btw_iff.1 h
  unfold qplace qplace_r plcI
  rw [subI_eq (by omega) (by omega)]
  by_cases c1 : block ≥ 0
  · rw [bif_true (tt c1)]
    by_cases c2 : block < 4096
    · rw [bif_true (tt c2)]
      by_cases c3 : at_ ≥ 0
      · rw [bif_true (tt c3)]
        congr 1
        by_cases c4 : at_ ≤ 65536 - len
        · rw [tt c4, tt (by omega)]
        · rw [ff c4, ff (by omega)]
      · rw [bif_false (ff c3), ff (by omega)]
    · rw [bif_false (ff c2), ff (by omega)]
  · rw [bif_false (ff c1), ff (by omega)]⟩
/-- One item more, in the reference. -/
def stepQ {X : Type} (x : Itm) (a : List Itm) (b : Bool) (e : Int → X) (go fail : X) : X :=
  bif (decide (x.2.1 < (1 : Int))) then e 2 else
  bif (decide (x.2.1 > (65536 : Int))) then e 2 else
  bif (x.2.2.1 != (-1 : Int)) then
    bif (qplace_P x.2.1 x.2.2.1 x.2.2.2.1) then
    bif (!(qplace_r x.2.1 x.2.2.1 x.2.2.2.1)) then e 2 else
    bif b then
    bif (qfind_P a x.1 x.2.1) then
    bif (decide ((qfind_r a x.1 x.2.1) ≥ (0 : Int))) then e 8 else go
    else fail
    else fail
    else fail
  else
  bif (x.2.2.2.1 != (0 : Int)) then
    bif (qplace_P x.2.1 x.2.2.1 x.2.2.2.1) then
    bif (!(qplace_r x.2.1 x.2.2.1 x.2.2.2.1)) then e 2 else
    bif b then
    bif (qfind_P a x.1 x.2.1) then
    bif (decide ((qfind_r a x.1 x.2.1) ≥ (0 : Int))) then e 8 else go
    else fail
    else fail
    else fail
  else
  bif b then
  bif (qfind_P a x.1 x.2.1) then
  bif (decide ((qfind_r a x.1 x.2.1) ≥ (0 : Int))) then e 8 else go
  else fail
  else fail
theorem qfind_has (a : List Itm) (d : List UInt8) (n : Int) : decide (qfind_r a d n ≥ 0) = hasI a d n := by
  unfold qfind_r
  cases hasI a d n with
  | true => exact tt (by rw [if_pos rfl]; omega)
  | false => exact ff (by rw [if_neg (by decide)]; omega)
theorem stepQ_eq {X : Type} {x : Itm} {a : List Itm} {b : Bool} (hb : b = true) (hl : a.length ≤ 4096) (e : Int → X) (go : X) (fail : X) :
    stepQ x a b e go fail = if okI x then (if hasI a x.1 x.2.1 then e 8 else go) else e 2 := by
  have hq : qfind_P a x.1 x.2.1 = true := tt (by omega)
  have tail : (bif (decide ((qfind_r a x.1 x.2.1) ≥ (0 : Int))) then e 8 else go) = if hasI a x.1 x.2.1 then e 8 else go := by
    rw [qfind_has]; cases hasI a x.1 x.2.1 <;> rfl
  unfold stepQ
  rw [tail, hb, hq, cond_true, cond_true]
  by_cases c1 : x.2.1 < 1
  · rw [bif_true (tt c1), okI_f (fun c => by have := btw_iff.1 c.1; omega), if_neg (by decide)]
  by_cases c2 : x.2.1 > 65536
  · rw [bif_false (ff c1), bif_true (tt c2), okI_f (fun c => by have := btw_iff.1 c.1; omega), if_neg (by decide)]
  have h : btw x.2.1 1 65536 = true := btw_iff.2 (by omega)
  rw [bif_false (ff c1), bif_false (ff c2)]
  have hp : qplace_P x.2.1 x.2.2.1 x.2.2.2.1 = true := h
  rw [hp, cond_true]
  unfold qplace_r
  by_cases c1 : x.2.2.1 = -1
  · rw [bif_false (bne_f c1)]
    by_cases c2 : x.2.2.2.1 = 0
    · rw [bif_false (bne_f c2), okI_iff.2 ⟨h, .inl ⟨c1, c2⟩⟩, if_pos rfl]
    · rw [bif_true (bne_t c2)]
      cases k : plcI x.2.1 x.2.2.1 x.2.2.2.1 with
      | true => rw [bif_false (c := !true) rfl, okI_iff.2 ⟨h, .inr k⟩, if_pos rfl]
      | false => rw [bif_true (c := !false) rfl, okI_f (fun c => by rw [k] at c; rcases c.2 with c | c; exact c2 c.2; cases c), if_neg (by simp)]
  · rw [bif_true (bne_t c1)]
    cases k : plcI x.2.1 x.2.2.1 x.2.2.2.1 with
    | true => rw [bif_false (c := !true) rfl, okI_iff.2 ⟨h, .inr k⟩, if_pos rfl]
    | false => rw [bif_true (c := !false) rfl, okI_f (fun c => by rw [k] at c; rcases c.2 with c | c; exact c1 c.1; cases c), if_neg (by simp)]
theorem qCheck_loop {X : Type} (F : Nat) (fail : X) (ex0 ex1 : Int → Int → Frg → X) (K : Int → X) (f : Frg) (hl : f.1.length ≤ 4096) (h0 : ∀ e i : Int, ex0 e i f = K e) (h1 : ∀ s i : Int, ex1 s i f = K 0) : ∀ (j m i : Nat) (s : Int), i + j = f.1.length → j ≤ m →
    qCheck_l1F F fail ex0 ex1 (m + 1) s i f = K (goI (f.1.take i) (f.1.drop i))
  | 0, m, i, s, hi, _ => by
    have e : i = f.1.length := by omega
    subst e
    rw [qCheck_l1F, qCheck_l1]
    rw [bif_false (ff (by omega)), List.drop_length, h1]; rfl
  | j + 1, 0, i, _, _, hm => absurd hm (by omega)
  | j + 1, m + 1, i, s, hi, hm => by
    have ih := qCheck_loop F fail ex0 ex1 K f hl h0 h1 j m (i + 1) s (by omega) (by omega)
    rw [take_snoc f.1 i itm0 (by omega)] at ih
    rw [qCheck_l1F, qCheck_l1]
    rw [Int.toNat_natCast, bif_true (tt (by omega)), bif_true (tt2 (by omega) (by omega)), drop_cons itm0 (show i < f.1.length by omega)]
    have hk : (f.1.take i).length ≤ 4096 := by rw [List.length_take]; omega
    refine (stepQ_eq (x := f.1.getD i itm0) (b := decide ((0 : Int) ≤ (i : Int)) && decide ((i : Int) ≤ ((f.1.length : Nat) : Int))) (tt2 (by omega) (by omega)) hk (fun e => ex0 e i f) (qCheck_l1F F fail ex0 ex1 (m + 1) s (addI i 1) f) fail).trans ?_
    rw [goI]
    cases okI (f.1.getD i itm0) with
    | false => rw [if_neg (by decide), if_neg (by decide)]; exact h0 2 _
    | true =>
      rw [if_pos rfl, if_pos rfl]
      cases hasI (f.1.take i) (f.1.getD i itm0).1 (f.1.getD i itm0).2.1 with
      | true => rw [if_pos rfl, if_pos rfl]; exact h0 8 _
      | false =>
        rw [if_neg (by decide), if_neg (by decide), addI_eq (by omega) (by omega), nat1]
        exact ih
theorem qCheck_plain (f : Frg) (_ : qCheck_P f = true) : ∃ F, ∀ {X : Type} (fail : X) (ret : Int → X), qCheck F f fail ret = ret (qCheck_r f) := ⟨f.1.length + 1, fun fail ret => by
  unfold qCheck qCheck_r
  rcases chk_cases f with ⟨c, e⟩ | ⟨c, e⟩ <;> rw [e]
  · rw [bif_true (tt (by omega))]
  · rw [bif_false (ff (by omega))]
    exact qCheck_loop (f.1.length + 1) fail _ _ ret f c (fun _ _ => rfl) (fun _ _ => rfl) f.1.length _ 0 0 (by omega) (by omega)⟩
theorem qFind_plain (f : Frg) (d : List UInt8) (n : Int) (_ : qFind_P f d n = true) : ∃ F, ∀ {X : Type} (fail : X) (ret : Int → Bool → X), qFind F f d n fail ret = ret (qFind_r0 f d n) (qFind_r1 f d n) := ⟨0, fun fail ret => by
  unfold qFind qFind_r0 qFind_r1 fFind_r0 fFind_r1 qCheck_r
  rw [bif_true (c := qCheck_P f) rfl]
  by_cases c : chkI f = 0
  · have hq : qfind_P f.1 d n = true := tt (by have := (chk_ok c).1; omega)
    rw [bif_false (bne_f c), bif_true hq, qfind_has, tt c, Bool.true_and]
    unfold qfind_r
    rw [maxI_eq]
    cases hasI f.1 d n with
    | true => rw [if_pos rfl, if_pos (show chkI f = 0 ∧ true = true from ⟨c, rfl⟩)]; congr 1; omega
    | false => rw [if_neg (by decide), if_neg (fun k : chkI f = 0 ∧ false = true => absurd k.2 (by decide))]; rfl
  · rw [bif_true (bne_t c), ff c, if_neg (fun k => c k.1)]; rfl⟩
theorem qCopy_plain (f : Frg) (h : qCopy_P f = true) : ∃ F, ∀ {X : Type} (fail : X) (ret : Frg → X), qCopy F f fail ret = ret (qCopy_r f) := ⟨0, fun fail ret => by
  simp only [qCopy_P, decide_eq_true_eq] at h
  unfold qCopy qCopy_r
  rw [le_big (by omega)]; rfl⟩
end Go.AI
