/- Texts of the proof, joined: TransT. Names of our own are shortened by program; the long ones stand in wip/. -/
import Derived.Test.YtcdajbmgoafnkaaGreatQrS
import Derived.Test.YtcdajbmgoafnkaaGreatQrWireP4
namespace Go.AI
open Go
theorem Knf : ∀ {l : List Rec}, K9s l = 0 → ∀ r, r ∈ l → (1 ≤ r.1 ∧ r.1 ≤ 4) ∧ r.2.1.length ≤ 65536
 | [], _, _, h => nomatch h
 | x :: l, h, r, hr => by
  rw [K9s] at h
  by_cases c : Jnm x = 0
  ·rw [if_pos c] at h
   rcases List.mem_cons.1 hr with rfl | hr
   ·unfold Jnm at c
    by_cases c1 : 1 ≤ r.1 ∧ r.1 ≤ 4
    ·rw [if_pos c1] at c
     refine ⟨c1, ?_⟩
     by_cases c2 : r.2.1.length > 65536
     ·rw [if_pos c2] at c; cases c
     ·omega
    ·rw [if_neg c1] at c; cases c
   ·exact Knf h r hr
  ·rw [if_neg c] at h; exact absurd h c
end Go.AI
