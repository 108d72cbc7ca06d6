/- Texts of the proof, joined: TransT. -/
import Derived.Test.YtcdajbmgoafnkaaGreatQcS
import Derived.Test.YtcdajbmgoafnkaaGreatQcWireP4
namespace Go.AI
open Go
theorem chkG_mem : ∀ {l : List Rec}, chkG l = 0 → ∀ r, r ∈ l → (1 ≤ r.1 ∧ r.1 ≤ 4) ∧ r.2.1.length ≤ 65536
 | [], _, _, h => nomatch h
 | x :: l, h, r, hr => by
  rw [chkG] at h
  by_cases c : chkOne x = 0
  ·rw [if_pos c] at h
   rcases List.mem_cons.1 hr with rfl | hr
   ·unfold chkOne at c
    by_cases c1 : 1 ≤ r.1 ∧ r.1 ≤ 4
    ·rw [if_pos c1] at c
     refine ⟨c1, ?_⟩
     by_cases c2 : r.2.1.length > 65536
     ·rw [if_pos c2] at c; cases c
     ·omega
    ·rw [if_neg c1] at c; cases c
   ·exact chkG_mem h r hr
  ·rw [if_neg c] at h; exact absurd h c
end Go.AI
