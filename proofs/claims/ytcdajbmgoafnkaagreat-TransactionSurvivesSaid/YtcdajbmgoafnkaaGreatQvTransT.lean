/- Texts of the proof, joined: TransT. Names of our own are shortened by program; the long ones stand in wip/. -/
import Derived.Test.YtcdajbmgoafnkaaGreatQvS
import Derived.Test.YtcdajbmgoafnkaaGreatQvWireP4
namespace Go.AI
open Go
theorem J16 : ∀ {l : List Rec}, Ku1 l = 0 → ∀ r, r ∈ l → (1 ≤ r.1 ∧ r.1 ≤ 4) ∧ r.2.1.length ≤ 65536
 | [], _, _, h => nomatch h
 | x :: l, h, r, hr => by
  rw [Ku1] at h
  by_cases c : Jlc x = 0
  ·rw [if_pos c] at h
   rcases List.mem_cons.1 hr with rfl | hr
   ·unfold Jlc at c
    by_cases c1 : 1 ≤ r.1 ∧ r.1 ≤ 4
    ·rw [if_pos c1] at c
     refine ⟨c1, ?_⟩
     by_cases c2 : r.2.1.length > 65536
     ·rw [if_pos c2] at c; cases c
     ·omega
    ·rw [if_neg c1] at c; cases c
   ·exact J16 h r hr
  ·rw [if_neg c] at h; exact absurd h c
theorem Ky0 {r : Rec} (h : 1 ≤ r.1 ∧ r.1 ≤ 4) (t : List UInt8) : Jcc (Jmn r ++ t) = (r.1, J6p (Jf9 r.2.1.length) ++ r.2.1 ++ t, 0) := by
 unfold Jmn
 rw [Kcd (by omega) (by omega), List.append_assoc]
 exact J31 (by omega) (by omega) _
theorem Kra : ∀ (l : List Rec) (out : List Rec), (∀ r, r ∈ l → (1 ≤ r.1 ∧ r.1 ≤ 4) ∧ r.2.1.length ≤ 65536) → K5a l.length (l.flatMap Jmn) out = (out ++ l, 0)
 | [], out, _ => by rw [List.append_nil]; rfl
 | r :: l, out, h => by
  have hr := h r List.mem_cons_self
  have e : (r :: l).flatMap Jmn = Jmn r ++ l.flatMap Jmn := rfl
  have ih := Kra l (out ++ [r]) fun x hx => h x (List.mem_cons_of_mem _ hx)
  rw [List.length_cons, K5a, e, Ky0 hr.1, Kcu hr.2]
  rw [if_neg (by simp), if_pos hr.1, if_neg (by simp)]
  refine Eq.trans ih ?_
  rw [List.append_assoc]; rfl
theorem Ky1 {l : List Rec} (h : Kep l = 0) (hl : (Jup l).length ≤ 65536) : Klj (Jup l) = (l, 0) := by
 have hc : ¬ l.length > 1024 := fun c => by unfold Kep at h; rw [if_pos c] at h; cases h
 unfold Kep at h
 rw [if_neg hc] at h
 have e : Jcc (Jup l) = ((l.length : Int), l.flatMap Jmn, 0) := by
  unfold Jup
  rw [Kcd (by omega) (by omega)]
  exact J31 (by omega) (by omega) _
 unfold Klj
 rw [if_neg (by omega), e, if_neg (by simp), if_neg (by simp; omega)]
 have := Kra l [] (J16 h)
 rw [List.nil_append] at this
 exact this
end Go.AI
