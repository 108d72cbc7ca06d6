/- Texts of the proof, joined: LogQ. -/
import Derived.Test.YtnmidfcefljafaaGreatQeG
import Derived.Test.YtnmidfcefljafaaGreatQeLogP7
namespace Go.AI
open Go
theorem bys_loop {X : Type} (F : Nat) (fail : X) (ex0 ex1 : List Bys → List Bys → Bool → Int → X) (kt kf : X) (a b : List Bys) (hl : a.length = b.length) (ha : a.length ≤ 1000000000000) (h0 : ∀ i : Nat, ex0 a b false i = kf) (h1 : ∀ s (i : Nat), ex1 a b s i = kt) : ∀ (j m i : Nat) (s4 : Bool), i + j = a.length → j ≤ m →
  qSameB_l1F F fail ex0 ex1 (m + 1) a b s4 i = if a.drop i = b.drop i then kt else kf
 | 0, m, i, s4, hi, _ => by
  rw [qSameB_l1F, qSameB_l1]
  rw [bif_false (ff (by omega)), h1, List.drop_eq_nil_of_le (by omega), List.drop_eq_nil_of_le (by omega), if_pos rfl]
 | j + 1, 0, i, _, _, hm => absurd hm (by omega)
 | j + 1, m + 1, i, s4, hi, hm => by
  have ih := bys_loop F fail ex0 ex1 kt kf a b hl ha h0 h1 j m (i + 1) s4 (by omega) (by omega)
  rw [qSameB_l1F, qSameB_l1]
  rw [bif_true (tt (by omega)), bif_true (tt2 (by omega) (by omega)), bif_true (tt2 (by omega) (by omega)), Int.toNat_natCast, drop_cons ([] : Bys) (show i < a.length by omega), drop_cons ([] : Bys) (show i < b.length by omega)]
  by_cases c : a.getD i [] = b.getD i []
  ·refine bif_eq_f (by rw [show ((a.getD i []) == (b.getD i [])) = true from beq_iff_eq.2 c]; rfl) ?_
   rw [addI_eq (by omega) (by omega), c, nat1, ih]
   simp only [List.cons.injEq, true_and]
  ·refine bif_eq_t (by rw [show ((a.getD i []) == (b.getD i [])) = false from beq_eq_false_iff_ne.2 c]; rfl) ?_
   rw [h0, if_neg (fun e => c (List.cons.inj e).1)]
theorem qSameB_plain (a b : List Bys) (h : qSameB_P a b = true) : ∃ F, ∀ {X : Type} (fail : X) (ret : Bool → X), qSameB F a b fail ret = ret (qSameB_r a b) := ⟨a.length + 1, fun fail ret => by
 simp only [qSameB_P, decide_eq_true_eq] at h
 unfold qSameB qSameB_r
 by_cases hl : a.length = b.length
 ·rw [bif_false (bne_f (by omega))]
  refine (bys_loop (a.length + 1) fail _ _ (ret true) (ret false) a b hl h.1 (fun _ => rfl) (fun _ _ => rfl) a.length a.length 0 false (by omega) (by omega)).trans ?_
  rw [List.drop_zero, List.drop_zero]
  by_cases c : a = b
  ·rw [if_pos c, tt c]
  ·rw [if_neg c, ff c]
 ·rw [bif_true (bne_t (by omega)), ff (fun e => hl (by rw [e]))]⟩
end Go.AI
