/- Texts of the proof, joined: LogP7. -/
import Derived.Test.YtcdajbmgoafnkaaGreatQcLogP6
namespace Go.AI
open Go
abbrev op0 : DOp := (0, (0, ([], ())))
theorem opsS_iff {a : List DOp} : opsS a = true ↔ a.length ≤ 1000000000000 ∧ ∀ x, x ∈ a → x.2.2.1.length ≤ 1000000000000 := by simp [opsS]
theorem ops_loop {X : Type} (F : Nat) (fail : X) (ex0 ex1 : List DOp → List DOp → Bool → Int → X) (kt kf : X) (a b : List DOp) (hl : a.length = b.length) (ha : opsS a = true) (hb : opsS b = true) (h0 : ∀ i : Nat, ex0 a b false i = kf) (h1 : ∀ s (i : Nat), ex1 a b s i = kt) : ∀ (j m i : Nat) (s4 : Bool), i + j = a.length → j ≤ m →
  rSameOps_l1F F fail ex0 ex1 (m + 1) a b s4 i = if a.drop i = b.drop i then kt else kf
 | 0, m, i, s4, hi, _ => by
  rw [rSameOps_l1F, rSameOps_l1]
  rw [bif_false (ff (by omega)), h1, List.drop_eq_nil_of_le (by omega), List.drop_eq_nil_of_le (by omega), if_pos rfl]
 | j + 1, 0, i, _, _, hm => absurd hm (by omega)
 | j + 1, m + 1, i, s4, hi, hm => by
  have ih := ops_loop F fail ex0 ex1 kt kf a b hl ha hb h0 h1 j m (i + 1) s4 (by omega) (by omega)
  have ha' := opsS_iff.1 ha
  have hb' := opsS_iff.1 hb
  have hp : rSamePages_P (a.getD i op0).2.2.1 (b.getD i op0).2.2.1 = true := tt ⟨ha'.2 _ (by rw [getD_lt (show i < a.length by omega)]; exact List.getElem_mem _), hb'.2 _ (by rw [getD_lt (show i < b.length by omega)]; exact List.getElem_mem _)⟩
  have ea : (decide ((0 : Int) ≤ (i : Int)) && decide ((i : Int) < ((a.length : Nat) : Int))) = true := tt2 (by omega) (by omega)
  have eb : (decide ((0 : Int) ≤ (i : Int)) && decide ((i : Int) < ((b.length : Nat) : Int))) = true := tt2 (by omega) (by omega)
  have ext : ∀ x y : DOp, x.1 = y.1 → x.2.1 = y.2.1 → x.2.2.1 = y.2.2.1 → x = y := fun x y h1 h2 h3 => Prod.ext h1 (Prod.ext h2 (Prod.ext h3 rfl))
  rw [rSameOps_l1F, rSameOps_l1]
  rw [Int.toNat_natCast, drop_cons op0 (show i < a.length by omega), drop_cons op0 (show i < b.length by omega)]
  refine bif_eq_t (tt (by omega)) (bif_eq_t ea (bif_eq_t eb ?_))
  by_cases c1 : (a.getD i op0).1 = (b.getD i op0).1
  case neg => exact bif_eq_t (bne_t c1) (by rw [h0, if_neg (fun e => c1 (by rw [(List.cons.inj e).1]))])
  refine bif_eq_f (bne_f c1) (bif_eq_t ea (bif_eq_t eb ?_))
  by_cases c2 : (a.getD i op0).2.1 = (b.getD i op0).2.1
  case neg => exact bif_eq_t (bne_t c2) (by rw [h0, if_neg (fun e => c2 (by rw [(List.cons.inj e).1]))])
  refine bif_eq_f (bne_f c2) (bif_eq_t ea (bif_eq_t eb (bif_eq_t hp ?_)))
  by_cases c3 : (a.getD i op0).2.2.1 = (b.getD i op0).2.2.1
  case neg => exact bif_eq_t (by rw [show rSamePages_r (a.getD i op0).2.2.1 (b.getD i op0).2.2.1 = false from ff c3]; rfl) (by rw [h0, if_neg (fun e => c3 (by rw [(List.cons.inj e).1]))])
  refine bif_eq_f (by rw [show rSamePages_r (a.getD i op0).2.2.1 (b.getD i op0).2.2.1 = true from tt c3]; rfl) ?_
  rw [addI_eq (by omega) (by omega), nat1, ih, ext _ _ c1 c2 c3]
  simp only [List.cons.injEq, true_and]
theorem rSameOps_plain (a b : List DOp) (h : rSameOps_P a b = true) : ∃ F, ∀ {X : Type} (fail : X) (ret : Bool → X), rSameOps F a b fail ret = ret (rSameOps_r a b) := ⟨a.length + 1, fun fail ret => by
 unfold rSameOps_P at h
 rw [Bool.and_eq_true] at h
 have ha := opsS_iff.1 h.1
 have hb := opsS_iff.1 h.2
 unfold rSameOps rSameOps_r
 by_cases hl : a.length = b.length
 ·rw [bif_false (bne_f (by omega))]
  refine (ops_loop (a.length + 1) fail _ _ (ret true) (ret false) a b hl h.1 h.2 (fun _ => rfl) (fun _ _ => rfl) a.length a.length 0 false (by omega) (by omega)).trans ?_
  rw [List.drop_zero, List.drop_zero]
  by_cases c : a = b
  ·rw [if_pos c, tt c]
  ·rw [if_neg c, ff c]
 ·rw [bif_true (bne_t (by omega)), ff (fun e => hl (by rw [e]))]⟩
end Go.AI
