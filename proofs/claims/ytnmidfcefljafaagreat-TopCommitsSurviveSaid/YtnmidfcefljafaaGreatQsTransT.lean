/- Texts of the proof, joined: TransT. Names of our own are shortened by program; the long ones stand in wip/. -/
import Derived.Test.YtnmidfcefljafaaGreatQsS
import Derived.Test.YtnmidfcefljafaaGreatQsWireP4
namespace Go.AI
open Go
theorem J1l : ∀ {l : List Rec}, Kt2 l = 0 → ∀ r, r ∈ l → (1 ≤ r.1 ∧ r.1 ≤ 4) ∧ r.2.1.length ≤ 65536
 | [], _, _, h => nomatch h
 | x :: l, h, r, hr => by
  rw [Kt2] at h
  by_cases c : Jku x = 0
  ·rw [if_pos c] at h
   rcases List.mem_cons.1 hr with rfl | hr
   ·unfold Jku at c
    by_cases c1 : 1 ≤ r.1 ∧ r.1 ≤ 4
    ·rw [if_pos c1] at c
     refine ⟨c1, ?_⟩
     by_cases c2 : r.2.1.length > 65536
     ·rw [if_pos c2] at c; cases c
     ·omega
    ·rw [if_neg c1] at c; cases c
   ·exact J1l h r hr
  ·rw [if_neg c] at h; exact absurd h c
theorem Kxy {r : Rec} (h : 1 ≤ r.1 ∧ r.1 ≤ 4) (t : List UInt8) : Jb0 (Jl8 r ++ t) = (r.1, J5t (Jfx r.2.1.length) ++ r.2.1 ++ t, 0) := by
 unfold Jl8
 rw [Kbh (by omega) (by omega), List.append_assoc]
 exact J3b (by omega) (by omega) _
theorem Kqh : ∀ (l : List Rec) (out : List Rec), (∀ r, r ∈ l → (1 ≤ r.1 ∧ r.1 ≤ 4) ∧ r.2.1.length ≤ 65536) → K3u l.length (l.flatMap Jl8) out = (out ++ l, 0)
 | [], out, _ => by rw [List.append_nil]; rfl
 | r :: l, out, h => by
  have hr := h r List.mem_cons_self
  have e : (r :: l).flatMap Jl8 = Jl8 r ++ l.flatMap Jl8 := rfl
  have ih := Kqh l (out ++ [r]) fun x hx => h x (List.mem_cons_of_mem _ hx)
  rw [List.length_cons, K3u, e, Kxy hr.1, Kbz hr.2]
  rw [if_neg (by simp), if_pos hr.1, if_neg (by simp)]
  refine Eq.trans ih ?_
  rw [List.append_assoc]; rfl
theorem Kxz {l : List Rec} (h : Kpk l = 0) (hl : (Jx4 l).length ≤ 65536) : Kkw (Jx4 l) = (l, 0) := by
 have hc : ¬ l.length > 1024 := fun c => by unfold Kpk at h; rw [if_pos c] at h; cases h
 unfold Kpk at h
 rw [if_neg hc] at h
 have e : Jb0 (Jx4 l) = ((l.length : Int), l.flatMap Jl8, 0) := by
  unfold Jx4
  rw [Kbh (by omega) (by omega)]
  exact J3b (by omega) (by omega) _
 unfold Kkw
 rw [if_neg (by omega), e, if_neg (by simp), if_neg (by simp; omega)]
 have := Kqh l [] (J1l h)
 rw [List.nil_append] at this
 exact this
end Go.AI
