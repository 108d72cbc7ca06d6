/- Texts of the proof, joined: TransT. Names of our own are shortened by program; the long ones stand in wip/. -/
import Derived.Test.YtcdajbmgoafnkaaGreatQwS
import Derived.Test.YtcdajbmgoafnkaaGreatQwWireP4
namespace Go.AI
open Go
theorem J46 : ∀ {l : List Rec}, Kw2 l = 0 → ∀ r, r ∈ l → (1 ≤ r.1 ∧ r.1 ≤ 4) ∧ r.2.1.length ≤ 65536
 | [], _, _, h => nomatch h
 | x :: l, h, r, hr => by
  rw [Kw2] at h
  by_cases c : Jju x = 0
  ·rw [if_pos c] at h
   rcases List.mem_cons.1 hr with rfl | hr
   ·unfold Jju at c
    by_cases c1 : 1 ≤ r.1 ∧ r.1 ≤ 4
    ·rw [if_pos c1] at c
     refine ⟨c1, ?_⟩
     by_cases c2 : r.2.1.length > 65536
     ·rw [if_pos c2] at c; cases c
     ·omega
    ·rw [if_neg c1] at c; cases c
   ·exact J46 h r hr
  ·rw [if_neg c] at h; exact absurd h c
theorem K6m : ∀ {l : List Rec}, (∀ r, r ∈ l → (1 ≤ r.1 ∧ r.1 ≤ 4) ∧ r.2.1.length ≤ 65536) → Kw2 l = 0
 | [], _ => rfl
 | x :: l, h => by
  have hx := h x List.mem_cons_self
  have e : Jju x = 0 := by unfold Jju; rw [if_pos hx.1, if_neg (by omega)]
  rw [Kw2, if_pos e]
  exact K6m fun r hr => h r (List.mem_cons_of_mem _ hr)
theorem K6n {r : Rec} (h : 1 ≤ r.1 ∧ r.1 ≤ 4) (t : List UInt8) : Jbc (Jka r ++ t) = (r.1, J3m (Jfk r.2.1.length) ++ r.2.1 ++ t, 0) := by
 unfold Jka
 rw [Juq (by omega) (by omega), List.append_assoc]
 exact J64 (by omega) (by omega) _
theorem Kxz : ∀ (l : List Rec) (out : List Rec), (∀ r, r ∈ l → (1 ≤ r.1 ∧ r.1 ≤ 4) ∧ r.2.1.length ≤ 65536) → Krg l.length (l.flatMap Jka) out = (out ++ l, 0)
 | [], out, _ => by rw [List.append_nil]; rfl
 | r :: l, out, h => by
  have hr := h r List.mem_cons_self
  have e : (r :: l).flatMap Jka = Jka r ++ l.flatMap Jka := rfl
  have ih := Kxz l (out ++ [r]) fun x hx => h x (List.mem_cons_of_mem _ hx)
  rw [List.length_cons, Krg, e, K6n hr.1, Khe hr.2]
  rw [if_neg (by simp), if_pos hr.1, if_neg (by simp)]
  refine Eq.trans ih ?_
  rw [List.append_assoc]; rfl
theorem K6o {l : List Rec} (h : Kct l = 0) (hl : (Jr2 l).length ≤ 65536) : Kah (Jr2 l) = (l, 0) := by
 have hc : ¬ l.length > 1024 := fun c => by unfold Kct at h; rw [if_pos c] at h; cases h
 unfold Kct at h
 rw [if_neg hc] at h
 have e : Jbc (Jr2 l) = ((l.length : Int), l.flatMap Jka, 0) := by
  unfold Jr2
  rw [Juq (by omega) (by omega)]
  exact J64 (by omega) (by omega) _
 unfold Kah
 rw [if_neg (by omega), e, if_neg (by simp), if_neg (by simp; omega)]
 have := Kxz l [] (J46 h)
 rw [List.nil_append] at this
 exact this
theorem J66 {b : List UInt8} (h : (Jay b).2.2 = 0) : (Jay b).1.length ≤ 65536 := by
 unfold Jay at h ⊢
 simp only at h ⊢
 split at h
 ·rename_i c; exact absurd h c
 ·rename_i c
  rw [if_neg c]
  split at h
  ·cases h
  ·rename_i c2
   rw [if_neg c2, List.length_take]
   have hz : (Jch b).1 ≤ 65536 := by
    have c' : (Jch b).2.2 = 0 := Decidable.not_not.1 c
    unfold Jch at c' ⊢
    simp only at c' ⊢
    split at c'
    ·cases c'
    ·rename_i k
     rw [if_neg k]
     by_cases k2 : (Jbc b).1 > 65536
     ·exact absurd ⟨c', k2⟩ k
     ·omega
   omega
theorem Kc8 : ∀ (n : Nat) (b : List UInt8) (out : List Rec), (Krg n b out).2 = 0 → ∃ l, (Krg n b out).1 = out ++ l ∧ l.length = n ∧ l.flatMap Jka = b ∧ ∀ r, r ∈ l → (1 ≤ r.1 ∧ r.1 ≤ 4) ∧ r.2.1.length ≤ 65536
 | 0, b, out, h => by
  rw [Krg] at h ⊢
  split at h
  ·rename_i c
   rw [if_pos c]
   exact ⟨[], (List.append_nil _).symm, rfl, (List.length_eq_zero_iff.1 c).symm, fun _ h => nomatch h⟩
  ·cases h
 | n + 1, b, out, h => by
  rw [Krg] at h ⊢
  by_cases c1 : (Jbc b).2.2 ≠ 0
  ·rw [if_pos c1] at h; exact absurd h c1
  rw [if_neg c1] at h ⊢
  by_cases c2 : 1 ≤ (Jbc b).1 ∧ (Jbc b).1 ≤ 4
  ·rw [if_pos c2] at h ⊢
   by_cases c3 : (Jay (Jbc b).2.1).2.2 ≠ 0
   ·rw [if_pos c3] at h; exact absurd h c3
   ·rw [if_neg c3] at h ⊢
    obtain ⟨l, l1, l2, l3, l4⟩ := Kc8 n _ _ h
    have k1 := Jwq (Decidable.not_not.1 c1)
    have k2 := J65 (Decidable.not_not.1 c3)
    have k3 := J66 (Decidable.not_not.1 c3)
    refine ⟨((Jbc b).1, ((Jay (Jbc b).2.1).1, ())) :: l, ?_, by rw [List.length_cons, l2], ?_, ?_⟩
    ·rw [l1, List.append_assoc]; rfl
    ·show Jka _ ++ l.flatMap Jka = b
     rw [l3]
     unfold Jka
     simp only
     rw [Juq (n := (Jbc b).1) (by omega) (by omega), List.append_assoc, k2]
     exact k1.symm
    ·intro r hr
     rcases List.mem_cons.1 hr with rfl | hr
     ·exact ⟨c2, k3⟩
     ·exact l4 r hr
  ·rw [if_neg c2] at h; cases h
theorem Qgk {b : List UInt8} (h : (Kah b).2 = 0) : Kct (Kah b).1 = 0 ∧ Jr2 (Kah b).1 = b ∧ b.length ≤ 65536 := by
 unfold Kah at h ⊢
 by_cases c : b.length > 65536
 ·rw [if_pos c] at h; cases h
 rw [if_neg c] at h ⊢
 by_cases c1 : (Jbc b).2.2 ≠ 0
 ·rw [if_pos c1] at h; exact absurd h c1
 rw [if_neg c1] at h ⊢
 by_cases c2 : (Jbc b).1 > 1024
 ·rw [if_pos c2] at h; cases h
 rw [if_neg c2] at h ⊢
 obtain ⟨l, l1, l2, l3, l4⟩ := Kc8 _ _ _ h
 have hr := Jmb b
 have k1 := Jwq (Decidable.not_not.1 c1)
 rw [l1, List.nil_append]
 refine ⟨?_, ?_, by omega⟩
 ·unfold Kct
  rw [if_neg (by omega)]
  exact K6m l4
 ·unfold Jr2
  rw [l3, l2, Int.toNat_of_nonneg hr.1, Juq hr.1 hr.2.1]
  exact k1.symm
end Go.AI
