/- Texts of the proof, joined: TransT. -/
import Derived.Test.YtnmidfcefljafaaGreatQtS
import Derived.Test.YtnmidfcefljafaaGreatQtWireP4
namespace Go.AI
open Go
theorem chkG_mem : ∀ {l : List Rec}, chkG l = 0 → ∀ r, r ∈ l → (1 ≤ r.1 ∧ r.1 ≤ 4) ∧ r.2.1.length ≤ 65536
 | [], _, _, h => nomatch h
 | x :: l, h, r, hr => by
  rw [chkG] at h
  by_cases c : chkOne x = 0
  ·rw [if_pos c] at h
   rcases List.mem_cons.1 hr with rfl | hr
   ·unfold chkOne at c
    by_cases c1 : 1 ≤ r.1 ∧ r.1 ≤ 4
    ·rw [if_pos c1] at c
     refine ⟨c1, ?_⟩
     by_cases c2 : r.2.1.length > 65536
     ·rw [if_pos c2] at c; cases c
     ·omega
    ·rw [if_neg c1] at c; cases c
   ·exact chkG_mem h r hr
  ·rw [if_neg c] at h; exact absurd h c
theorem chkG_of : ∀ {l : List Rec}, (∀ r, r ∈ l → (1 ≤ r.1 ∧ r.1 ≤ 4) ∧ r.2.1.length ≤ 65536) → chkG l = 0
 | [], _ => rfl
 | x :: l, h => by
  have hx := h x List.mem_cons_self
  have e : chkOne x = 0 := by unfold chkOne; rw [if_pos hx.1, if_neg (by omega)]
  rw [chkG, if_pos e]
  exact chkG_of fun r hr => h r (List.mem_cons_of_mem _ hr)
theorem readN_one {r : Rec} (h : 1 ≤ r.1 ∧ r.1 ≤ 4) (t : List UInt8) : readN (encR1 r ++ t) = (r.1, encN (numOf r.2.1.length) ++ r.2.1 ++ t, 0) := by
 unfold encR1
 rw [numOf_id (by omega) (by omega), List.append_assoc]
 exact readN_enc (by omega) (by omega) _
theorem decG_enc : ∀ (l : List Rec) (out : List Rec), (∀ r, r ∈ l → (1 ≤ r.1 ∧ r.1 ≤ 4) ∧ r.2.1.length ≤ 65536) → decG l.length (l.flatMap encR1) out = (out ++ l, 0)
 | [], out, _ => by rw [List.append_nil]; rfl
 | r :: l, out, h => by
  have hr := h r List.mem_cons_self
  have e : (r :: l).flatMap encR1 = encR1 r ++ l.flatMap encR1 := rfl
  have ih := decG_enc l (out ++ [r]) fun x hx => h x (List.mem_cons_of_mem _ hx)
  rw [List.length_cons, decG, e, readN_one hr.1, readBytes_enc hr.2]
  rw [if_neg (by simp), if_pos hr.1, if_neg (by simp)]
  refine Eq.trans ih ?_
  rw [List.append_assoc]; rfl
theorem dec_enc {l : List Rec} (h : chkR l = 0) (hl : (encR l).length ≤ 65536) : decR (encR l) = (l, 0) := by
 have hc : ¬ l.length > 1024 := fun c => by unfold chkR at h; rw [if_pos c] at h; cases h
 unfold chkR at h
 rw [if_neg hc] at h
 have e : readN (encR l) = ((l.length : Int), l.flatMap encR1, 0) := by
  unfold encR
  rw [numOf_id (by omega) (by omega)]
  exact readN_enc (by omega) (by omega) _
 unfold decR
 rw [if_neg (by omega), e, if_neg (by simp), if_neg (by simp; omega)]
 have := decG_enc l [] (chkG_mem h)
 rw [List.nil_append] at this
 exact this
theorem readBytes_short {b : List UInt8} (h : (readBytes b).2.2 = 0) : (readBytes b).1.length ≤ 65536 := by
 unfold readBytes at h ⊢
 simp only at h ⊢
 split at h
 ·rename_i c; exact absurd h c
 ·rename_i c
  rw [if_neg c]
  split at h
  ·cases h
  ·rename_i c2
   rw [if_neg c2, List.length_take]
   have hz : (readLen b).1 ≤ 65536 := by
    have c' : (readLen b).2.2 = 0 := Decidable.not_not.1 c
    unfold readLen at c' ⊢
    simp only at c' ⊢
    split at c'
    ·cases c'
    ·rename_i k
     rw [if_neg k]
     by_cases k2 : (readN b).1 > 65536
     ·exact absurd ⟨c', k2⟩ k
     ·omega
   omega
theorem decG_canon : ∀ (n : Nat) (b : List UInt8) (out : List Rec), (decG n b out).2 = 0 → ∃ l, (decG n b out).1 = out ++ l ∧ l.length = n ∧ l.flatMap encR1 = b ∧ ∀ r, r ∈ l → (1 ≤ r.1 ∧ r.1 ≤ 4) ∧ r.2.1.length ≤ 65536
 | 0, b, out, h => by
  rw [decG] at h ⊢
  split at h
  ·rename_i c
   rw [if_pos c]
   exact ⟨[], (List.append_nil _).symm, rfl, (List.length_eq_zero_iff.1 c).symm, fun _ h => nomatch h⟩
  ·cases h
 | n + 1, b, out, h => by
  rw [decG] at h ⊢
  by_cases c1 : (readN b).2.2 ≠ 0
  ·rw [if_pos c1] at h; exact absurd h c1
  rw [if_neg c1] at h ⊢
  by_cases c2 : 1 ≤ (readN b).1 ∧ (readN b).1 ≤ 4
  ·rw [if_pos c2] at h ⊢
   by_cases c3 : (readBytes (readN b).2.1).2.2 ≠ 0
   ·rw [if_pos c3] at h; exact absurd h c3
   ·rw [if_neg c3] at h ⊢
    obtain ⟨l, l1, l2, l3, l4⟩ := decG_canon n _ _ h
    have k1 := readN_canon (Decidable.not_not.1 c1)
    have k2 := readBytes_canon (Decidable.not_not.1 c3)
    have k3 := readBytes_short (Decidable.not_not.1 c3)
    refine ⟨((readN b).1, ((readBytes (readN b).2.1).1, ())) :: l, ?_, by rw [List.length_cons, l2], ?_, ?_⟩
    ·rw [l1, List.append_assoc]; rfl
    ·show encR1 _ ++ l.flatMap encR1 = b
     rw [l3]
     unfold encR1
     simp only
     rw [numOf_id (n := (readN b).1) (by omega) (by omega), List.append_assoc, k2]
     exact k1.symm
    ·intro r hr
     rcases List.mem_cons.1 hr with rfl | hr
     ·exact ⟨c2, k3⟩
     ·exact l4 r hr
  ·rw [if_neg c2] at h; cases h
theorem enc_dec {b : List UInt8} (h : (decR b).2 = 0) : chkR (decR b).1 = 0 ∧ encR (decR b).1 = b ∧ b.length ≤ 65536 := by
 unfold decR at h ⊢
 by_cases c : b.length > 65536
 ·rw [if_pos c] at h; cases h
 rw [if_neg c] at h ⊢
 by_cases c1 : (readN b).2.2 ≠ 0
 ·rw [if_pos c1] at h; exact absurd h c1
 rw [if_neg c1] at h ⊢
 by_cases c2 : (readN b).1 > 1024
 ·rw [if_pos c2] at h; cases h
 rw [if_neg c2] at h ⊢
 obtain ⟨l, l1, l2, l3, l4⟩ := decG_canon _ _ _ h
 have hr := readN_range b
 have k1 := readN_canon (Decidable.not_not.1 c1)
 rw [l1, List.nil_append]
 refine ⟨?_, ?_, by omega⟩
 ·unfold chkR
  rw [if_neg (by omega)]
  exact chkG_of l4
 ·unfold encR
  rw [l3, l2, Int.toNat_of_nonneg hr.1, numOf_id hr.1 hr.2.1]
  exact k1.symm
end Go.AI
