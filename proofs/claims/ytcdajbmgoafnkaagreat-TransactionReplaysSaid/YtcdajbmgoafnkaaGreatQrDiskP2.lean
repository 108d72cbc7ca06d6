/- Texts of the proof, joined: DiskP2. Names of our own are shortened by program; the long ones stand in wip/. -/
import Derived.Test.YtcdajbmgoafnkaaGreatQrDiskP
namespace Go.AI
open Go
theorem Kri {α : Type} {f : α → α → Bool} (hf : ∀ a b, f a b = true ↔ a = b) : ∀ a b : List α, Kw7 f a b = true ↔ a = b
 | [], [] => by simp [Kw7]
 | [], _ :: _ => by simp [Kw7]
 | _ :: _, [] => by simp [Kw7]
 | a :: l, b :: m => by simp only [Kw7, Bool.and_eq_true, hf, Kri hf l m, List.cons.injEq]
theorem Jxk : ∀ (s : Sch), s.comparable = true → ∀ a b : s.T, Jtw s a b = true ↔ a = b
 | .int k, _, a, b => by
  show (toI k a == toI k b) = true ↔ _
  rw [beq_iff_eq]; exact ⟨Kxz k, fun h => by rw [h]⟩
 | .bool, _, a, b => by show ((a : Bool) == b) = true ↔ _; exact beq_iff_eq
 | .str, _, a, b => by show ((a : List UInt8) == b) = true ↔ _; exact beq_iff_eq
 | .slc _, h, _, _ => by cases h
 | .arr _ s, h, a, b => Kri (Jxk s h) a b
 | .pair s t, h, a, b => by
  have h : s.comparable = true ∧ t.comparable = true := by simpa [Sch.comparable] using h
  show (Jtw s a.1 b.1 && Jtw t a.2 b.2) = true ↔ _
  rw [Bool.and_eq_true, Jxk s h.1, Jxk t h.2]
  exact ⟨fun e => Prod.ext e.1 e.2, fun e => by rw [e]; exact ⟨rfl, rfl⟩⟩
 | .unit, _, a, b => by show true = true ↔ _; simp
theorem J9c (s : Sch) (h : s.comparable = true) (a b : s.T) [Decidable (a = b)] : Jtw s a b = decide (a = b) := by
 cases e : Jtw s a b with
 | true => rw [tt ((Jxk s h a b).1 e)]
 | false => rw [ff (fun c => by rw [(Jxk s h a b).2 c] at e; cases e)]
theorem Kiq {X : Type} (F : Nat) (fail : X) (ex0 ex1 : List Jbw → List Jbw → Bool → Int → X) (kt kf : X) (a b : List Jbw) (hl : a.length = b.length) (ha : a.length ≤ 1000000000000) (h0 : ∀ i : Nat, ex0 a b false i = kf) (h1 : ∀ s (i : Nat), ex1 a b s i = kt) : ∀ (j m i : Nat) (s4 : Bool), i + j = a.length → j ≤ m →
  Jgf F fail ex0 ex1 (m + 1) a b s4 i = if a.drop i = b.drop i then kt else kf
 | 0, m, i, s4, hi, _ => by
  rw [Jgf, Jl9]
  rw [Jab (ff (by omega)), h1, List.drop_eq_nil_of_le (by omega), List.drop_eq_nil_of_le (by omega), if_pos rfl]
 | j + 1, 0, i, _, _, hm => absurd hm (by omega)
 | j + 1, m + 1, i, s4, hi, hm => by
  have ih := Kiq F fail ex0 ex1 kt kf a b hl ha h0 h1 j m (i + 1) s4 (by omega) (by omega)
  rw [Jgf, Jl9]
  rw [Jaa (tt (by omega)), Jaa (tt2 (by omega) (by omega)), Jaa (tt2 (by omega) (by omega)), Int.toNat_natCast, J9c (.arr 16 (.int .u8)) rfl, Jdj z16 (show i < a.length by omega), Jdj z16 (show i < b.length by omega)]
  by_cases c : a.getD i z16 = b.getD i z16
  ·rw [tt c, Jab (c := !true) rfl, Jai (by omega) (by omega), c, J2d, ih]
   simp only [List.cons.injEq, true_and]
  ·rw [ff c, Jaa (c := !false) rfl, h0, if_neg (fun e => c (List.cons.inj e).1)]
theorem J7f (a b : List Jbw) (h : Jk9 a b = true) : ∃ F, ∀ {X : Type} (fail : X) (ret : Bool → X), J4d F a b fail ret = ret (Jla a b) := ⟨a.length + 1, fun fail ret => by
 simp only [Jk9, decide_eq_true_eq] at h
 unfold J4d Jla
 by_cases hl : a.length = b.length
 ·rw [Jab (Jgm (by omega))]
  refine (Kiq (a.length + 1) fail _ _ (ret true) (ret false) a b hl h.1 (fun _ => rfl) (fun _ _ => rfl) a.length _ 0 false (by omega) (by omega)).trans ?_
  rw [List.drop_zero, List.drop_zero]
  by_cases c : a = b
  ·rw [if_pos c, tt c]
  ·rw [if_neg c, ff c]
 ·rw [Jaa (Jhl (by omega)), ff (fun e => hl (by rw [e]))]⟩
theorem K64 (d : DK) : ∃ F, ∀ {X : Type} (fail : X) (ret : Bool → X), rFew F d fail ret = ret (Kic d) := ⟨0, fun fail ret => by
 unfold rFew Kic
 by_cases c1 : (d.1.length : Int) ≤ 500
 ·rw [Jaa (tt c1)]
  congr 1
  by_cases c2 : (d.2.1.length : Int) ≤ 200
  ·rw [tt c2, tt (by omega)]
  ·rw [ff c2, ff (by omega)]
 ·rw [Jab (ff c1), ff (by omega)]⟩
end Go.AI
