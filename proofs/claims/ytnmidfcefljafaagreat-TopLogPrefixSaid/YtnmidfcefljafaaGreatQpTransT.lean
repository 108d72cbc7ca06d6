/- Texts of the proof, joined: TransT. Names of our own are shortened by program; the long ones stand in wip/. -/
import Derived.Test.YtnmidfcefljafaaGreatQpS
import Derived.Test.YtnmidfcefljafaaGreatQpWireP4
namespace Go.AI
open Go
theorem J2f : ∀ {l : List Rec}, Ktz l = 0 → ∀ r, r ∈ l → (1 ≤ r.1 ∧ r.1 ≤ 4) ∧ r.2.1.length ≤ 65536
 | [], _, _, h => nomatch h
 | x :: l, h, r, hr => by
  rw [Ktz] at h
  by_cases c : Jhr x = 0
  ·rw [if_pos c] at h
   rcases List.mem_cons.1 hr with rfl | hr
   ·unfold Jhr at c
    by_cases c1 : 1 ≤ r.1 ∧ r.1 ≤ 4
    ·rw [if_pos c1] at c
     refine ⟨c1, ?_⟩
     by_cases c2 : r.2.1.length > 65536
     ·rw [if_pos c2] at c; cases c
     ·omega
    ·rw [if_neg c1] at c; cases c
   ·exact J2f h r hr
  ·rw [if_neg c] at h; exact absurd h c
theorem Kzx {r : Rec} (h : 1 ≤ r.1 ∧ r.1 ≤ 4) (t : List UInt8) : Jbt (Jmh r ++ t) = (r.1, J6z (Jfy r.2.1.length) ++ r.2.1 ++ t, 0) := by
 unfold Jmh
 rw [Kcr (by omega) (by omega), List.append_assoc]
 exact J4c (by omega) (by omega) _
theorem Kr5 : ∀ (l : List Rec) (out : List Rec), (∀ r, r ∈ l → (1 ≤ r.1 ∧ r.1 ≤ 4) ∧ r.2.1.length ≤ 65536) → Kx4 l.length (l.flatMap Jmh) out = (out ++ l, 0)
 | [], out, _ => by rw [List.append_nil]; rfl
 | r :: l, out, h => by
  have hr := h r List.mem_cons_self
  have e : (r :: l).flatMap Jmh = Jmh r ++ l.flatMap Jmh := rfl
  have ih := Kr5 l (out ++ [r]) fun x hx => h x (List.mem_cons_of_mem _ hx)
  rw [List.length_cons, Kx4, e, Kzx hr.1, Kc9 hr.2]
  rw [if_neg (by simp), if_pos hr.1, if_neg (by simp)]
  refine Eq.trans ih ?_
  rw [List.append_assoc]; rfl
theorem Kzy {l : List Rec} (h : Ke4 l = 0) (hl : (Jyk l).length ≤ 65536) : Kgq (Jyk l) = (l, 0) := by
 have hc : ¬ l.length > 1024 := fun c => by unfold Ke4 at h; rw [if_pos c] at h; cases h
 unfold Ke4 at h
 rw [if_neg hc] at h
 have e : Jbt (Jyk l) = ((l.length : Int), l.flatMap Jmh, 0) := by
  unfold Jyk
  rw [Kcr (by omega) (by omega)]
  exact J4c (by omega) (by omega) _
 unfold Kgq
 rw [if_neg (by omega), e, if_neg (by simp), if_neg (by simp; omega)]
 have := Kr5 l [] (J2f h)
 rw [List.nil_append] at this
 exact this
end Go.AI
