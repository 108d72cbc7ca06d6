/- Texts of the proof, joined: TopC. Names of our own are shortened by program; the long ones stand in wip/. -/
import Derived.Test.YtnmidfcefljafaaGreatQpTransC
import Derived.Test.YtnmidfcefljafaaGreatQpS
namespace Go.AI
open Go
theorem Ke6.sam {key : Bys} {r : List Rec} (h : Ke6 key r) : Kl6 r = true := by
 have := (Kr7 (K6i h.enc).1).1
 exact tt (by omega)
theorem K81 {l : List (List Rec)} (h : ∀ r, r ∈ l → Kl6 r = true) (hl : l.length ≤ 1000000) : Jva l = true := by
 unfold Jva
 rw [Bool.and_eq_true, decide_eq_true_eq]
 exact ⟨by omega, List.all_eq_true.2 h⟩
theorem Jhh.sam {key : Bys} {n : Nat} {s : List Ja4} {done : List (List Rec)} (h : Jhh key n s done) (hn : n ≤ 8192) : Jva done = true :=
 K81 (fun r hr => (h.ok r hr).sam) (by have := h.few; omega)
theorem J9n {n : Nat} (h1 : 1 ≤ n) (h2 : n ≤ 8192) : K5n n = Ja5 (List.replicate n z16) := by
 unfold K5n
 rw [if_pos (by omega), Int.toNat_natCast]; rfl
theorem Knq (n : Nat) (h1 : 2 ≤ n) (h2 : n ≤ 8192) : J3s (Jkz (n : Int)) (Jek (n : Int)) = true ∧ Jib (Jkz (n : Int)) (Jek (n : Int)) = begT n ∧ Jn6 (Jkz (n : Int)) (Jek (n : Int)) = 0 ∧ Jmw (n : Int) = 0 ∧ J3r (n : Int) = 0 ∧ Jie (n : Int) = (1, (0, ((n : Int), ()))) := by
 have hl : (List.replicate n z16).length = n := List.length_replicate
 have b2 : Jn4 (K5n (n : Int)) (K2j (n : Int)) = (begT n, (4, 0)) := by rw [J9n (by omega) h2, K8p hl h1 h2]; rfl
 refine ⟨?_, ?_, ?_, if_pos (by omega), if_pos (by omega), if_pos (by omega)⟩
 ·show Kts (K5n (n : Int)) (K2j (n : Int)) = true
  rw [J9n (by omega) h2]
  have e : K2j n = [wrO 0 (List.replicate n z16), syO, wrO 0 [Jh2], syO] := by unfold K2j; rw [if_pos (by omega), Int.toNat_natCast]
  refine Juj.2 ⟨by show (List.replicate n z16).length ≤ _; omega, Nat.zero_le _, by rw [e]; simp, ?_⟩
  rw [e]
  show (List.replicate n z16).length + (0 + (1 + (0 + 0))) ≤ _
  omega
 ·show (Jn4 (K5n (n : Int)) (K2j (n : Int))).1 = _
  rw [b2]
 ·show (Jn4 (K5n (n : Int)) (K2j (n : Int))).2.2 = _
  rw [b2]
theorem K82 {a b : Jf9} (h : a ≠ b) : Jct (.pair (.int .i64) (.pair (.int .i64) (.pair (.int .i64) .unit))) a b = false := by
 cases e : Jct (.pair (.int .i64) (.pair (.int .i64) (.pair (.int .i64) .unit))) a b with
 | false => rfl
 | true => exact absurd ((Jou (.pair (.int .i64) (.pair (.int .i64) (.pair (.int .i64) .unit))) rfl a b).1 e) h
theorem K0j (a b : Jf9) : Jct (.pair (.int .i64) (.pair (.int .i64) (.pair (.int .i64) .unit))) a b = decide (a = b) := by
 by_cases c : a = b
 ·rw [c, tt rfl]; exact K80 b
 ·rw [ff c]; exact K82 c
theorem K83 {α : Type} (l : List α) (a : α) : l ≠ l ++ [a] := fun h => by
 have := congrArg List.length h
 rw [List.length_append, List.length_singleton] at this; omega
theorem K0k {r : List Rec} (h : K9i r = true) : r.length ≤ 60 ∧ ∀ x, x ∈ r → x.2.1.length ≤ 300 := by
 unfold K9i at h
 rw [Bool.and_eq_true, decide_eq_true_eq] at h
 exact ⟨h.2, fun x hx => of_decide_eq_true (List.all_eq_true.1 h.1 x hx)⟩
theorem K6k : ∀ {r : List Rec}, (∀ x, x ∈ r → x.2.1.length ≤ 300) → wR r ≤ 320 * r.length
 | [], _ => Nat.le_refl _
 | x :: r, h => by
  have h1 := h x List.mem_cons_self
  have h2 := K6k (r := r) fun y hy => h y (List.mem_cons_of_mem _ hy)
  rw [K0i, List.length_cons]; omega
theorem K6l {key : Bys} (hk : key.length ≤ 64) {r : List Rec} (h : okT r = true) : Ke6 key r := by
 unfold okT at h
 rw [Bool.and_eq_true, decide_eq_true_eq] at h
 obtain ⟨h7, h8⟩ := K0k h.1
 have hw := K6k h8
 have he := enc_w r
 refine ⟨?_, ?_⟩
 ·unfold Ke5; rw [if_pos h.2, if_neg (by omega)]
 ·by_cases c : key = []
  ·exact .inl c
  ·have := List.length_pos_iff.2 c
   exact .inr ⟨⟨by omega, hk⟩, by omega⟩
end Go.AI
