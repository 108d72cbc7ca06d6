/- Texts of the proof, joined: DiskP2. -/
import Derived.Test.YtcdajbmgoafnkaaGreatQcDiskP
namespace Go.AI
open Go
theorem beqL_iffk {α : Type} {f : α → α → Bool} (hf : ∀ a b, f a b = true ↔ a = b) : ∀ a b : List α, beqL f a b = true ↔ a = b
 | [], [] => by simp [beqL]
 | [], _ :: _ => by simp [beqL]
 | _ :: _, [] => by simp [beqL]
 | a :: l, b :: m => by simp only [beqL, Bool.and_eq_true, hf, beqL_iffk hf l m, List.cons.injEq]
theorem beqT_iff : ∀ (s : Sch), s.comparable = true → ∀ a b : s.T, beqT s a b = true ↔ a = b
 | .int k, _, a, b => by
  show (toI k a == toI k b) = true ↔ _
  rw [beq_iff_eq]; exact ⟨toI_inj k, fun h => by rw [h]⟩
 | .bool, _, a, b => by show ((a : Bool) == b) = true ↔ _; exact beq_iff_eq
 | .str, _, a, b => by show ((a : List UInt8) == b) = true ↔ _; exact beq_iff_eq
 | .slc _, h, _, _ => by cases h
 | .arr _ s, h, a, b => beqL_iffk (beqT_iff s h) a b
 | .pair s t, h, a, b => by
  have h : s.comparable = true ∧ t.comparable = true := by simpa [Sch.comparable] using h
  show (beqT s a.1 b.1 && beqT t a.2 b.2) = true ↔ _
  rw [Bool.and_eq_true, beqT_iff s h.1, beqT_iff t h.2]
  exact ⟨fun e => Prod.ext e.1 e.2, fun e => by rw [e]; exact ⟨rfl, rfl⟩⟩
 | .unit, _, a, b => by show true = true ↔ _; simp
theorem beqT_dec (s : Sch) (h : s.comparable = true) (a b : s.T) [Decidable (a = b)] : beqT s a b = decide (a = b) := by
 cases e : beqT s a b with
 | true => rw [tt ((beqT_iff s h a b).1 e)]
 | false => rw [ff (fun c => by rw [(beqT_iff s h a b).2 c] at e; cases e)]
theorem pages_loop {X : Type} (F : Nat) (fail : X) (ex0 ex1 : List Page → List Page → Bool → Int → X) (kt kf : X) (a b : List Page) (hl : a.length = b.length) (ha : a.length ≤ 1000000000000) (h0 : ∀ i : Nat, ex0 a b false i = kf) (h1 : ∀ s (i : Nat), ex1 a b s i = kt) : ∀ (j m i : Nat) (s4 : Bool), i + j = a.length → j ≤ m →
  rSamePages_l1F F fail ex0 ex1 (m + 1) a b s4 i = if a.drop i = b.drop i then kt else kf
 | 0, m, i, s4, hi, _ => by
  rw [rSamePages_l1F, rSamePages_l1]
  rw [bif_false (ff (by omega)), h1, List.drop_eq_nil_of_le (by omega), List.drop_eq_nil_of_le (by omega), if_pos rfl]
 | j + 1, 0, i, _, _, hm => absurd hm (by omega)
 | j + 1, m + 1, i, s4, hi, hm => by
  have ih := pages_loop F fail ex0 ex1 kt kf a b hl ha h0 h1 j m (i + 1) s4 (by omega) (by omega)
  rw [rSamePages_l1F, rSamePages_l1]
  rw [bif_true (tt (by omega)), bif_true (tt2 (by omega) (by omega)), bif_true (tt2 (by omega) (by omega)), Int.toNat_natCast, beqT_dec (.arr 16 (.int .u8)) rfl, drop_cons z16 (show i < a.length by omega), drop_cons z16 (show i < b.length by omega)]
  by_cases c : a.getD i z16 = b.getD i z16
  ·rw [tt c, bif_false (c := !true) rfl, addI_eq (by omega) (by omega), c, nat1, ih]
   simp only [List.cons.injEq, true_and]
  ·rw [ff c, bif_true (c := !false) rfl, h0, if_neg (fun e => c (List.cons.inj e).1)]
theorem rSamePages_plain (a b : List Page) (h : rSamePages_P a b = true) : ∃ F, ∀ {X : Type} (fail : X) (ret : Bool → X), rSamePages F a b fail ret = ret (rSamePages_r a b) := ⟨a.length + 1, fun fail ret => by
 simp only [rSamePages_P, decide_eq_true_eq] at h
 unfold rSamePages rSamePages_r
 by_cases hl : a.length = b.length
 ·rw [bif_false (bne_f (by omega))]
  refine (pages_loop (a.length + 1) fail _ _ (ret true) (ret false) a b hl h.1 (fun _ => rfl) (fun _ _ => rfl) a.length _ 0 false (by omega) (by omega)).trans ?_
  rw [List.drop_zero, List.drop_zero]
  by_cases c : a = b
  ·rw [if_pos c, tt c]
  ·rw [if_neg c, ff c]
 ·rw [bif_true (bne_t (by omega)), ff (fun e => hl (by rw [e]))]⟩
end Go.AI
