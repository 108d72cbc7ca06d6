/- Texts of the proof, joined: WireP2. Names of our own are shortened by program; the long ones stand in wip/. -/
import Derived.Test.YtnmidfcefljafaaGreatQsG
import Derived.Test.YtnmidfcefljafaaGreatQsWireP
namespace Go.AI
open Go
theorem Jwg {X : Type} (F : Nat) (fail : X) (ex0 : List UInt8 → Int → Int → List UInt8 → X) (b dst : List UInt8) (hb : dst.length + b.length ≤ 2147483648) : ∀ (j m i : Nat), i + j = b.length → j < m →
  Jdk F fail ex0 m b (b.length : Nat) i (dst ++ b.take i) = ex0 b (b.length : Nat) (b.length : Nat) (dst ++ b)
 | 0, m + 1, i, h1, h2 => by
  simp only [Jdk, Jgc]
  have e : i = b.length := by omega
  subst e
  rw [Jab (ff (by omega)), List.take_length]
 | j + 1, m + 1, i, h1, h2 => by
  simp only [Jdk, Jgc]
  rw [Jaa (tt (by omega)), Jaa (tt2 (by omega) (by omega)), Int.toNat_natCast, List.append_assoc, ← Jhm b i 0 (by omega), Jaa (Jds (by simp; omega)), Jar (by omega) (by omega)]
  exact Jwg F fail ex0 b dst hb j m (i + 1) (by omega) (by omega)
theorem Jt8 (dst b : List UInt8) (h : Jeg dst b = true) : ∃ F, ∀ {X : Type} (fail : X) (ret : List UInt8 → X), Jn6 F dst b fail ret = ret (Jhp dst b) := ⟨b.length + 1, fun fail ret => by
 simp only [Jeg, decide_eq_true_eq] at h
 have hl := Jfl (Jfx b.length)
 unfold Jn6
 rw [Jaa (c := Jbh _) (tt (by omega)), Jaa (c := Jj1 _ _) (tt ⟨by unfold Jb4; omega, by omega, by omega⟩)]
 have := Jwg (b.length + 1) fail (fun (s14 : List UInt8) (s15 : Int) (s16 : Int) (dst1 : List UInt8) => ret dst1) b (dst ++ J5t (Jfx b.length)) (by simp; omega) b.length (b.length + 1) 0 (by omega) (by omega)
 rw [List.take_zero, List.append_nil] at this
 exact this⟩
theorem Joh (src : List UInt8) : 0 ≤ (Jb0 src).1 ∧ (Jb0 src).1 ≤ 9007199254740991 ∧ (Jb0 src).2.1.length ≤ src.length ∧ 0 ≤ (Jb0 src).2.2 ∧ (Jb0 src).2.2 ≤ 9 := by
 cases src with
 | nil => simp [Jb0]
 | cons b r =>
  simp only [Jb0]
  repeat' split
  all_goals (simp; try omega)
  rename_i h
  unfold Kpf at h
  omega
theorem Kbj (src : List UInt8) : 0 ≤ (Jgh src).1 ∧ (Jgh src).1 ≤ 9007199254740991 ∧ (Jgh src).2.1.length ≤ src.length ∧ 0 ≤ (Jgh src).2.2 ∧ (Jgh src).2.2 ≤ 9 := by
 have := Joh src
 unfold Jgh
 simp only
 split
 ·simp
 ·exact this
theorem Klo {src : List UInt8} (h : (Jb0 src).2.2 ≠ 0) : Jgh src = Jb0 src := by simp [Jgh, h]
theorem Klp {src : List UInt8} (h : (Jb0 src).2.2 = 0) (k : (Jb0 src).1 > 65536) : Jgh src = (0, [], 5) := by simp [Jgh, h, k]
theorem J76 {src : List UInt8} (h : (Jb0 src).2.2 = 0) (k : ¬ (Jb0 src).1 > 65536) : Jgh src = Jb0 src := by simp [Jgh, h, k]
theorem J0b (src : List UInt8) (h : Jff src = true) : ∃ F, ∀ {X : Type} (fail : X) (ret : List UInt8 → List UInt8 → Int → X), Jx8 F src fail ret = ret (Jdz src) (Jd0 src) (Jch src) := ⟨0, fun fail ret => by
 have h0 := h
 simp only [Jff, decide_eq_true_eq] at h0
 have hr := Joh src
 unfold Jx8 Jdz Jd0 Jch
 rw [Jaa (c := Jef _) h]
 rw [show Jan src = (Jb0 src).1 from rfl, show Jam src = (Jb0 src).2.1 from rfl, show Ja9 src = (Jb0 src).2.2 from rfl]
 by_cases h1 : (Jb0 src).2.2 = 0
 ·rw [Jaa (Jl7 h1)]
  by_cases h3 : (Jb0 src).1 > 65536
  ·have e : Jby src = ([], [], 5) := by simp [Jby, Klp h1 h3]
   rw [Jaa (tt h3), e]
  rw [Jab (ff h3), Jab (Jhl h1)]
  by_cases h2 : ((Jb0 src).2.1.length : Int) < (Jb0 src).1
  ·have e : Jby src = ([], [], 9) := by simp [Jby, J76 h1 h3, h1, h2]
   rw [Jaa (tt h2), e]
  ·have e : Jby src = ((Jb0 src).2.1.take (Jb0 src).1.toNat, (Jb0 src).2.1.drop (Jb0 src).1.toNat, 0) := by simp [Jby, J76 h1 h3, h1, h2]
   rw [Jab (ff h2), e, Jaa (tt2 (by omega) (by omega)), Jaa (c := Jbh _) (tt (by simp; omega)), Jaa (tt2 (by omega) (by omega)), Jaa (c := Jbh _) (tt (by simp; omega))]
   rfl
 ·have e : Jby src = ([], [], (Jb0 src).2.2) := by simp [Jby, Klo h1, h1]
  rw [Jab (Jpi h1), Jaa (Jkp h1), e]⟩
end Go.AI
