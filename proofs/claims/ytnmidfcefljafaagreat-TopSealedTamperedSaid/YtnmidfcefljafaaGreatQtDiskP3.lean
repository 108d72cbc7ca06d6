/- Texts of the proof, joined: DiskP3. -/
import Derived.Test.YtnmidfcefljafaaGreatQtDiskP2
namespace Go.AI
open Go
def hasAt (l : List Pend) (a : Int) : Bool := l.any fun p => p.1 == a
def versL (s : List Page) (l : List Pend) (a : Int) : List Page := s.getD a.toNat z16 :: (l.filter fun p => p.1 == a).map fun p => p.2.1
theorem versD_eq (d : DK) (a : Int) : versD d a = versL d.1 d.2.1 a := rfl
theorem vers_len (s : List Page) (l : List Pend) (a : Int) : 1 ≤ (versL s l a).length ∧ (versL s l a).length ≤ l.length + 1 := by
 unfold versL
 have := List.length_filter_le (fun p : Pend => p.1 == a) l
 rw [List.length_cons, List.length_map]; omega
theorem firsts_mem : ∀ (l : List Pend) (seen : List Int) (a : Int), a ∈ firsts l seen → hasAt l a = true
 | [], _, _, h => by cases h
 | x :: l, seen, a, h => by
  unfold firsts at h
  split at h
  ·have := firsts_mem l seen a h; simp only [hasAt, List.any_cons] at this ⊢; rw [this]; simp
  ·rcases List.mem_cons.1 h with rfl | h
   ·simp [hasAt]
   ·have := firsts_mem l _ a h; simp only [hasAt, List.any_cons] at this ⊢; rw [this]; simp
theorem has_mem {l : List Pend} {a : Int} (h : hasAt l a = true) : ∃ p, p ∈ l ∧ p.1 = a := by
 obtain ⟨p, h1, h2⟩ := List.any_eq_true.1 h
 exact ⟨p, h1, by simpa using h2⟩
theorem has_ok {n : Nat} {l : List Pend} {a : Int} (ho : okP n l = true) (h : hasAt l a = true) : 0 ≤ a ∧ a < n := by
 obtain ⟨p, h1, rfl⟩ := has_mem h
 exact okP_iff.1 ho p h1
theorem dec_range (ch : List Int) (n : Nat) (h : 1 ≤ n) : 0 ≤ decD ch n ∧ decD ch n < n := by
 unfold decD
 cases ch with
 | nil => exact ⟨Int.le_refl _, by show (0 : Int) < _; omega⟩
 | cons c _ => exact ⟨Int.emod_nonneg _ (by omega), Int.emod_lt_of_pos _ (by omega)⟩
theorem fold_len (d : DK) : ∀ (l : List Int) (s : List Int × List Page), (l.foldl (crStep d) s).1.length ≤ s.1.length ∧ (l.foldl (crStep d) s).2.length = s.2.length
 | [], s => ⟨Nat.le_refl _, rfl⟩
 | a :: l, s => by
  obtain ⟨h1, h2⟩ := fold_len d l (crStep d s a)
  rw [List.foldl_cons]
  refine ⟨Nat.le_trans h1 ?_, h2.trans ?_⟩
  ·show s.1.tail.length ≤ _; rw [List.length_tail]; omega
  ·show (List.set s.2 _ _).length = _; rw [List.length_set]
end Go.AI
