/- Texts of the proof, joined: TransT. -/
import Derived.Test.YtnmidfcefljafaaGreatQeS
import Derived.Test.YtnmidfcefljafaaGreatQeWireP4
namespace Go.AI
open Go
theorem chkG_mem : ∀ {l : List Rec}, chkG l = 0 → ∀ r, r ∈ l → (1 ≤ r.1 ∧ r.1 ≤ 4) ∧ r.2.1.length ≤ 65536
 | [], _, _, h => nomatch h
 | x :: l, h, r, hr => by
  rw [chkG] at h
  by_cases c : chkOne x = 0
  ·rw [if_pos c] at h
   rcases List.mem_cons.1 hr with rfl | hr
   ·unfold chkOne at c
    by_cases c1 : 1 ≤ r.1 ∧ r.1 ≤ 4
    ·rw [if_pos c1] at c
     refine ⟨c1, ?_⟩
     by_cases c2 : r.2.1.length > 65536
     ·rw [if_pos c2] at c; cases c
     ·omega
    ·rw [if_neg c1] at c; cases c
   ·exact chkG_mem h r hr
  ·rw [if_neg c] at h; exact absurd h c
theorem readN_one {r : Rec} (h : 1 ≤ r.1 ∧ r.1 ≤ 4) (t : List UInt8) : readN (encR1 r ++ t) = (r.1, encN (numOf r.2.1.length) ++ r.2.1 ++ t, 0) := by
 unfold encR1
 rw [numOf_id (by omega) (by omega), List.append_assoc]
 exact readN_enc (by omega) (by omega) _
theorem decG_enc : ∀ (l : List Rec) (out : List Rec), (∀ r, r ∈ l → (1 ≤ r.1 ∧ r.1 ≤ 4) ∧ r.2.1.length ≤ 65536) → decG l.length (l.flatMap encR1) out = (out ++ l, 0)
 | [], out, _ => by rw [List.append_nil]; rfl
 | r :: l, out, h => by
  have hr := h r List.mem_cons_self
  have e : (r :: l).flatMap encR1 = encR1 r ++ l.flatMap encR1 := rfl
  have ih := decG_enc l (out ++ [r]) fun x hx => h x (List.mem_cons_of_mem _ hx)
  rw [List.length_cons, decG, e, readN_one hr.1, readBytes_enc hr.2]
  rw [if_neg (by simp), if_pos hr.1, if_neg (by simp)]
  refine Eq.trans ih ?_
  rw [List.append_assoc]; rfl
theorem dec_enc {l : List Rec} (h : chkR l = 0) (hl : (encR l).length ≤ 65536) : decR (encR l) = (l, 0) := by
 have hc : ¬ l.length > 1024 := fun c => by unfold chkR at h; rw [if_pos c] at h; cases h
 unfold chkR at h
 rw [if_neg hc] at h
 have e : readN (encR l) = ((l.length : Int), l.flatMap encR1, 0) := by
  unfold encR
  rw [numOf_id (by omega) (by omega)]
  exact readN_enc (by omega) (by omega) _
 unfold decR
 rw [if_neg (by omega), e, if_neg (by simp), if_neg (by simp; omega)]
 have := decG_enc l [] (chkG_mem h)
 rw [List.nil_append] at this
 exact this
end Go.AI
