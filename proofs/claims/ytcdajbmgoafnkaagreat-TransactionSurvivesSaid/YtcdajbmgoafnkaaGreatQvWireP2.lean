/- Texts of the proof, joined: WireP2. Names of our own are shortened by program; the long ones stand in wip/. -/
import Derived.Test.YtcdajbmgoafnkaaGreatQvG
import Derived.Test.YtcdajbmgoafnkaaGreatQvWireP
namespace Go.AI
open Go
theorem Jwz {X : Type} (F : Nat) (fail : X) (ex0 : List UInt8 → Int → Int → List UInt8 → X) (b dst : List UInt8) (hb : dst.length + b.length ≤ 2147483648) : ∀ (j m i : Nat), i + j = b.length → j < m →
  Jdz F fail ex0 m b (b.length : Nat) i (dst ++ b.take i) = ex0 b (b.length : Nat) (b.length : Nat) (dst ++ b)
 | 0, m + 1, i, h1, h2 => by
  simp only [Jdz, Jgo]
  have e : i = b.length := by omega
  subst e
  rw [Jab (ff (by omega)), List.take_length]
 | j + 1, m + 1, i, h1, h2 => by
  simp only [Jdz, Jgo]
  rw [Jaa (tt (by omega)), Jaa (tt2 (by omega) (by omega)), Int.toNat_natCast, List.append_assoc, ← Jfe b i 0 (by omega), Jaa (Jem (by simp; omega)), Jam (by omega) (by omega)]
  exact Jwz F fail ex0 b dst hb j m (i + 1) (by omega) (by omega)
theorem Juz (dst b : List UInt8) (h : Jev dst b = true) : ∃ F, ∀ {X : Type} (fail : X) (ret : List UInt8 → X), Joq F dst b fail ret = ret (Jh0 dst b) := ⟨b.length + 1, fun fail ret => by
 simp only [Jev, decide_eq_true_eq] at h
 have hl := Jfx (Jf9 b.length)
 unfold Joq
 rw [Jaa (c := Jbt _) (tt (by omega)), Jaa (c := Jkk _ _) (tt ⟨by unfold Jch; omega, by omega, by omega⟩)]
 have := Jwz (b.length + 1) fail (fun (s14 : List UInt8) (s15 : Int) (s16 : Int) (dst1 : List UInt8) => ret dst1) b (dst ++ J6p (Jf9 b.length)) (by simp; omega) b.length (b.length + 1) 0 (by omega) (by omega)
 rw [List.take_zero, List.append_nil] at this
 exact this⟩
theorem Jo1 (src : List UInt8) : 0 ≤ (Jcc src).1 ∧ (Jcc src).1 ≤ 9007199254740991 ∧ (Jcc src).2.1.length ≤ src.length ∧ 0 ≤ (Jcc src).2.2 ∧ (Jcc src).2.2 ≤ 9 := by
 cases src with
 | nil => simp [Jcc]
 | cons b r =>
  simp only [Jcc]
  repeat' split
  all_goals (simp; try omega)
  rename_i h
  unfold Kp6 at h
  omega
theorem Kcf (src : List UInt8) : 0 ≤ (Jgt src).1 ∧ (Jgt src).1 ≤ 9007199254740991 ∧ (Jgt src).2.1.length ≤ src.length ∧ 0 ≤ (Jgt src).2.2 ∧ (Jgt src).2.2 ≤ 9 := by
 have := Jo1 src
 unfold Jgt
 simp only
 split
 ·simp
 ·exact this
theorem Kmb {src : List UInt8} (h : (Jcc src).2.2 ≠ 0) : Jgt src = Jcc src := by simp [Jgt, h]
theorem Kmc {src : List UInt8} (h : (Jcc src).2.2 = 0) (k : (Jcc src).1 > 65536) : Jgt src = (0, [], 5) := by simp [Jgt, h, k]
theorem J81 {src : List UInt8} (h : (Jcc src).2.2 = 0) (k : ¬ (Jcc src).1 > 65536) : Jgt src = Jcc src := by simp [Jgt, h, k]
theorem J0x (src : List UInt8) (h : Jfu src = true) : ∃ F, ∀ {X : Type} (fail : X) (ret : List UInt8 → List UInt8 → Int → X), Jyr F src fail ret = ret (Jef src) (Jeg src) (Jct src) := ⟨0, fun fail ret => by
 have h0 := h
 simp only [Jfu, decide_eq_true_eq] at h0
 have hr := Jo1 src
 unfold Jyr Jef Jeg Jct
 rw [Jaa (c := Jeu _) h]
 rw [show Jao src = (Jcc src).1 from rfl, show Jal src = (Jcc src).2.1 from rfl, show Jbi src = (Jcc src).2.2 from rfl]
 by_cases h1 : (Jcc src).2.2 = 0
 ·rw [Jaa (Jju h1)]
  by_cases h3 : (Jcc src).1 > 65536
  ·have e : Jb9 src = ([], [], 5) := by simp [Jb9, Kmc h1 h3]
   rw [Jaa (tt h3), e]
  rw [Jab (ff h3), Jab (Jf8 h1)]
  by_cases h2 : ((Jcc src).2.1.length : Int) < (Jcc src).1
  ·have e : Jb9 src = ([], [], 9) := by simp [Jb9, J81 h1 h3, h1, h2]
   rw [Jaa (tt h2), e]
  ·have e : Jb9 src = ((Jcc src).2.1.take (Jcc src).1.toNat, (Jcc src).2.1.drop (Jcc src).1.toNat, 0) := by simp [Jb9, J81 h1 h3, h1, h2]
   rw [Jab (ff h2), e, Jaa (tt2 (by omega) (by omega)), Jaa (c := Jbt _) (tt (by simp; omega)), Jaa (tt2 (by omega) (by omega)), Jaa (c := Jbt _) (tt (by simp; omega))]
   rfl
 ·have e : Jb9 src = ([], [], (Jcc src).2.2) := by simp [Jb9, Kmb h1, h1]
  rw [Jab (Jjv h1), Jaa (Jjj h1), e]⟩
end Go.AI
