/- Texts of the proof, joined: WireP2. Names of our own are shortened by program; the long ones stand in wip/. -/
import Derived.Test.YtcdajbmgoafnkaaGreatQwG
import Derived.Test.YtcdajbmgoafnkaaGreatQwWireP
namespace Go.AI
open Go
theorem Jy3 {X : Type} (F : Nat) (fail : X) (ex0 : List UInt8 → Int → Int → List UInt8 → X) (b dst : List UInt8) (hb : dst.length + b.length ≤ 2147483648) : ∀ (j m i : Nat), i + j = b.length → j < m →
  Jdk F fail ex0 m b (b.length : Nat) i (dst ++ b.take i) = ex0 b (b.length : Nat) (b.length : Nat) (dst ++ b)
 | 0, m + 1, i, h1, h2 => by
  simp only [Jdk, Jgp]
  have e : i = b.length := by omega
  subst e
  rw [Jab (ff (by omega)), List.take_length]
 | j + 1, m + 1, i, h1, h2 => by
  simp only [Jdk, Jgp]
  rw [Jaa (tt (by omega)), Jaa (tt2 (by omega) (by omega)), Int.toNat_natCast, List.append_assoc, ← Jdx b i 0 (by omega), Jaa (Jcg (by simp; omega)), Jak (by omega) (by omega)]
  exact Jy3 F fail ex0 b dst hb j m (i + 1) (by omega) (by omega)
theorem Jwp (dst b : List UInt8) (h : Jeg dst b = true) : ∃ F, ∀ {X : Type} (fail : X) (ret : List UInt8 → X), Jp0 F dst b fail ret = ret (Jh8 dst b) := ⟨b.length + 1, fun fail ret => by
 simp only [Jeg, decide_eq_true_eq] at h
 have hl := Jfp (Jfk b.length)
 unfold Jp0
 rw [Jaa (c := Jbh _) (tt (by omega)), Jaa (c := Jlc _ _) (tt ⟨by unfold Jb4; omega, by omega, by omega⟩)]
 have := Jy3 (b.length + 1) fail (fun (s14 : List UInt8) (s15 : Int) (s16 : Int) (dst1 : List UInt8) => ret dst1) b (dst ++ J3m (Jfk b.length)) (by simp; omega) b.length (b.length + 1) 0 (by omega) (by omega)
 rw [List.take_zero, List.append_nil] at this
 exact this⟩
theorem Jmb (src : List UInt8) : 0 ≤ (Jbc src).1 ∧ (Jbc src).1 ≤ 9007199254740991 ∧ (Jbc src).2.1.length ≤ src.length ∧ 0 ≤ (Jbc src).2.2 ∧ (Jbc src).2.2 ≤ 9 := by
 cases src with
 | nil => simp [Jbc]
 | cons b r =>
  simp only [Jbc]
  repeat' split
  all_goals (simp; try omega)
  rename_i h
  unfold Kwy at h
  omega
theorem Jy4 (src : List UInt8) : 0 ≤ (Jch src).1 ∧ (Jch src).1 ≤ 9007199254740991 ∧ (Jch src).2.1.length ≤ src.length ∧ 0 ≤ (Jch src).2.2 ∧ (Jch src).2.2 ≤ 9 := by
 have := Jmb src
 unfold Jch
 simp only
 split
 ·simp
 ·exact this
theorem Kgs (src : List UInt8) (h : (Jch src).2.2 = 0) : (Jch src).1 ≤ 65536 := by
 unfold Jch at h ⊢
 simp only at h ⊢
 split at h
 ·cases h
 ·rename_i h2
  rw [if_neg h2]
  rcases Decidable.not_and_iff_or_not.1 h2 with h3 | h3
  ·exact absurd h h3
  ·omega
theorem Ksc {src : List UInt8} (h : (Jbc src).2.2 ≠ 0) : Jch src = Jbc src := by simp [Jch, h]
theorem Ksd {src : List UInt8} (h : (Jbc src).2.2 = 0) (k : (Jbc src).1 > 65536) : Jch src = (0, [], 5) := by simp [Jch, h, k]
theorem Kc2 {src : List UInt8} (h : (Jbc src).2.2 = 0) (k : ¬ (Jbc src).1 > 65536) : Jch src = Jbc src := by simp [Jch, h, k]
theorem J3q (src : List UInt8) (h : Jfl src = true) : ∃ F, ∀ {X : Type} (fail : X) (ret : List UInt8 → List UInt8 → Int → X), J00 F src fail ret = ret (Jd0 src) (Jd1 src) (Jci src) := ⟨0, fun fail ret => by
 have h0 := h
 simp only [Jfl, decide_eq_true_eq] at h0
 have hr := Jmb src
 unfold J00 Jd0 Jd1 Jci
 rw [Jaa (c := Jef _) h]
 rw [show Jao src = (Jbc src).1 from rfl, show Jam src = (Jbc src).2.1 from rfl, show Jbb src = (Jbc src).2.2 from rfl]
 by_cases h1 : (Jbc src).2.2 = 0
 ·rw [Jaa (Jnv h1)]
  by_cases h3 : (Jbc src).1 > 65536
  ·have e : Jay src = ([], [], 5) := by simp [Jay, Ksd h1 h3]
   rw [Jaa (tt h3), e]
  rw [Jab (ff h3), Jab (Jgh h1)]
  by_cases h2 : ((Jbc src).2.1.length : Int) < (Jbc src).1
  ·have e : Jay src = ([], [], 9) := by simp [Jay, Kc2 h1 h3, h1, h2]
   rw [Jaa (tt h2), e]
  ·have e : Jay src = ((Jbc src).2.1.take (Jbc src).1.toNat, (Jbc src).2.1.drop (Jbc src).1.toNat, 0) := by simp [Jay, Kc2 h1 h3, h1, h2]
   rw [Jab (ff h2), e, Jaa (tt2 (by omega) (by omega)), Jaa (c := Jbh _) (tt (by simp; omega)), Jaa (tt2 (by omega) (by omega)), Jaa (c := Jbh _) (tt (by simp; omega))]
   rfl
 ·have e : Jay src = ([], [], (Jbc src).2.2) := by simp [Jay, Ksc h1, h1]
  rw [Jab (Jkj h1), Jaa (Jj8 h1), e]⟩
end Go.AI
