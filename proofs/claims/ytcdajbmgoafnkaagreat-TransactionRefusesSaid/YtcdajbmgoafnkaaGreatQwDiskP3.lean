/- Texts of the proof, joined: DiskP3. Names of our own are shortened by program; the long ones stand in wip/. -/
import Derived.Test.YtcdajbmgoafnkaaGreatQwDiskP2
namespace Go.AI
open Go
def Kzv (l : List Jwi) (a : Int) : Bool := l.any fun p => p.1 == a
def Qa4 (s : List Ja7) (l : List Jwi) (a : Int) : List Ja7 := s.getD a.toNat z16 :: (l.filter fun p => p.1 == a).map fun p => p.2.1
theorem Qa5 (d : DK) (a : Int) : Krc d a = Qa4 d.1 d.2.1 a := rfl
theorem Qa6 (s : List Ja7) (l : List Jwi) (a : Int) : 1 ≤ (Qa4 s l a).length ∧ (Qa4 s l a).length ≤ l.length + 1 := by
 unfold Qa4
 have := List.length_filter_le (fun p : Jwi => p.1 == a) l
 rw [List.length_cons, List.length_map]; omega
theorem J05 : ∀ (l : List Jwi) (seen : List Int) (a : Int), a ∈ Kcn l seen → Kzv l a = true
 | [], _, _, h => by cases h
 | x :: l, seen, a, h => by
  unfold Kcn at h
  split at h
  ·have := J05 l seen a h; simp only [Kzv, List.any_cons] at this ⊢; rw [this]; simp
  ·rcases List.mem_cons.1 h with rfl | h
   ·simp [Kzv]
   ·have := J05 l _ a h; simp only [Kzv, List.any_cons] at this ⊢; rw [this]; simp
theorem Qfn {l : List Jwi} {a : Int} (h : Kzv l a = true) : ∃ p, p ∈ l ∧ p.1 = a := by
 obtain ⟨p, h1, h2⟩ := List.any_eq_true.1 h
 exact ⟨p, h1, by simpa using h2⟩
theorem Qh6 {n : Nat} {l : List Jwi} {a : Int} (ho : okP n l = true) (h : Kzv l a = true) : 0 ≤ a ∧ a < n := by
 obtain ⟨p, h1, rfl⟩ := Qfn h
 exact K41.1 ho p h1
theorem K46 (ch : List Int) (n : Nat) (h : 1 ≤ n) : 0 ≤ decD ch n ∧ decD ch n < n := by
 unfold decD
 cases ch with
 | nil => exact ⟨Int.le_refl _, by show (0 : Int) < _; omega⟩
 | cons c _ => exact ⟨Int.emod_nonneg _ (by omega), Int.emod_lt_of_pos _ (by omega)⟩
theorem Kxa (d : DK) : ∀ (l : List Int) (s : List Int × List Ja7), (l.foldl (Kkz d) s).1.length ≤ s.1.length ∧ (l.foldl (Kkz d) s).2.length = s.2.length
 | [], s => ⟨Nat.le_refl _, rfl⟩
 | a :: l, s => by
  obtain ⟨h1, h2⟩ := Kxa d l (Kkz d s a)
  rw [List.foldl_cons]
  refine ⟨Nat.le_trans h1 ?_, h2.trans ?_⟩
  ·show s.1.tail.length ≤ _; rw [List.length_tail]; omega
  ·show (List.set s.2 _ _).length = _; rw [List.length_set]
end Go.AI
