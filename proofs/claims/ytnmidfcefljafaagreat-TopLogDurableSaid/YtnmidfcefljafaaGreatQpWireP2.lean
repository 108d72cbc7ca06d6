/- Texts of the proof, joined: WireP2. Names of our own are shortened by program; the long ones stand in wip/. -/
import Derived.Test.YtnmidfcefljafaaGreatQpG
import Derived.Test.YtnmidfcefljafaaGreatQpWireP
namespace Go.AI
open Go
theorem Jwu {X : Type} (F : Nat) (fail : X) (ex0 : List UInt8 → Int → Int → List UInt8 → X) (b dst : List UInt8) (hb : dst.length + b.length ≤ 2147483648) : ∀ (j m i : Nat), i + j = b.length → j < m →
  Jdp F fail ex0 m b (b.length : Nat) i (dst ++ b.take i) = ex0 b (b.length : Nat) (b.length : Nat) (dst ++ b)
 | 0, m + 1, i, h1, h2 => by
  simp only [Jdp, Jgc]
  have e : i = b.length := by omega
  subst e
  rw [Jab (ff (by omega)), List.take_length]
 | j + 1, m + 1, i, h1, h2 => by
  simp only [Jdp, Jgc]
  rw [Jaa (tt (by omega)), Jaa (tt2 (by omega) (by omega)), Int.toNat_natCast, List.append_assoc, ← Jhm b i 0 (by omega), Jaa (Jea (by simp; omega)), Jao (by omega) (by omega)]
  exact Jwu F fail ex0 b dst hb j m (i + 1) (by omega) (by omega)
theorem Jun (dst b : List UInt8) (h : Jej dst b = true) : ∃ F, ∀ {X : Type} (fail : X) (ret : List UInt8 → X), Jon F dst b fail ret = ret (Jhp dst b) := ⟨b.length + 1, fun fail ret => by
 simp only [Jej, decide_eq_true_eq] at h
 have hl := Jfm (Jfy b.length)
 unfold Jon
 rw [Jaa (c := Jbh _) (tt (by omega)), Jaa (c := Jka _ _) (tt ⟨by unfold Jb7; omega, by omega, by omega⟩)]
 have := Jwu (b.length + 1) fail (fun (s14 : List UInt8) (s15 : Int) (s16 : Int) (dst1 : List UInt8) => ret dst1) b (dst ++ J6z (Jfy b.length)) (by simp; omega) b.length (b.length + 1) 0 (by omega) (by omega)
 rw [List.take_zero, List.append_nil] at this
 exact this⟩
theorem Jox (src : List UInt8) : 0 ≤ (Jbt src).1 ∧ (Jbt src).1 ≤ 9007199254740991 ∧ (Jbt src).2.1.length ≤ src.length ∧ 0 ≤ (Jbt src).2.2 ∧ (Jbt src).2.2 ≤ 9 := by
 cases src with
 | nil => simp [Jbt]
 | cons b r =>
  simp only [Jbt]
  repeat' split
  all_goals (simp; try omega)
  rename_i h
  unfold Kq3 at h
  omega
theorem Kct (src : List UInt8) : 0 ≤ (Jgj src).1 ∧ (Jgj src).1 ≤ 9007199254740991 ∧ (Jgj src).2.1.length ≤ src.length ∧ 0 ≤ (Jgj src).2.2 ∧ (Jgj src).2.2 ≤ 9 := by
 have := Jox src
 unfold Jgj
 simp only
 split
 ·simp
 ·exact this
theorem Km0 {src : List UInt8} (h : (Jbt src).2.2 ≠ 0) : Jgj src = Jbt src := by simp [Jgj, h]
theorem Km1 {src : List UInt8} (h : (Jbt src).2.2 = 0) (k : (Jbt src).1 > 65536) : Jgj src = (0, [], 5) := by simp [Jgj, h, k]
theorem J9e {src : List UInt8} (h : (Jbt src).2.2 = 0) (k : ¬ (Jbt src).1 > 65536) : Jgj src = Jbt src := by simp [Jgj, h, k]
theorem J02 (src : List UInt8) (h : Jfj src = true) : ∃ F, ∀ {X : Type} (fail : X) (ret : List UInt8 → List UInt8 → Int → X), Jyn F src fail ret = ret (Jd3 src) (Jd4 src) (Jcj src) := ⟨0, fun fail ret => by
 have h0 := h
 simp only [Jfj, decide_eq_true_eq] at h0
 have hr := Jox src
 unfold Jyn Jd3 Jd4 Jcj
 rw [Jaa (c := Jei _) h]
 rw [show Jap src = (Jbt src).1 from rfl, show Jam src = (Jbt src).2.1 from rfl, show Ja9 src = (Jbt src).2.2 from rfl]
 by_cases h1 : (Jbt src).2.2 = 0
 ·rw [Jaa (Jmg h1)]
  by_cases h3 : (Jbt src).1 > 65536
  ·have e : Jbm src = ([], [], 5) := by simp [Jbm, Km1 h1 h3]
   rw [Jaa (tt h3), e]
  rw [Jab (ff h3), Jab (Jgi h1)]
  by_cases h2 : ((Jbt src).2.1.length : Int) < (Jbt src).1
  ·have e : Jbm src = ([], [], 9) := by simp [Jbm, J9e h1 h3, h1, h2]
   rw [Jaa (tt h2), e]
  ·have e : Jbm src = ((Jbt src).2.1.take (Jbt src).1.toNat, (Jbt src).2.1.drop (Jbt src).1.toNat, 0) := by simp [Jbm, J9e h1 h3, h1, h2]
   rw [Jab (ff h2), e, Jaa (tt2 (by omega) (by omega)), Jaa (c := Jbh _) (tt (by simp; omega)), Jaa (tt2 (by omega) (by omega)), Jaa (c := Jbh _) (tt (by simp; omega))]
   rfl
 ·have e : Jbm src = ([], [], (Jbt src).2.2) := by simp [Jbm, Km0 h1, h1]
  rw [Jab (Jmt h1), Jaa (Jh9 h1), e]⟩
end Go.AI
