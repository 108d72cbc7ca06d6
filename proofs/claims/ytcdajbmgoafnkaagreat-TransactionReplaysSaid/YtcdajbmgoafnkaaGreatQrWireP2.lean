/- Texts of the proof, joined: WireP2. Names of our own are shortened by program; the long ones stand in wip/. -/
import Derived.Test.YtcdajbmgoafnkaaGreatQrG
import Derived.Test.YtcdajbmgoafnkaaGreatQrWireP
namespace Go.AI
open Go
theorem J2i {X : Type} (F : Nat) (fail : X) (ex0 : List UInt8 → Int → Int → List UInt8 → X) (b dst : List UInt8) (hb : dst.length + b.length ≤ 2147483648) : ∀ (j m i : Nat), i + j = b.length → j < m →
  Jd8 F fail ex0 m b (b.length : Nat) i (dst ++ b.take i) = ex0 b (b.length : Nat) (b.length : Nat) (dst ++ b)
 | 0, m + 1, i, h1, h2 => by
  simp only [Jd8, Jh5]
  have e : i = b.length := by omega
  subst e
  rw [Jab (ff (by omega)), List.take_length]
 | j + 1, m + 1, i, h1, h2 => by
  simp only [Jd8, Jh5]
  rw [Jaa (tt (by omega)), Jaa (tt2 (by omega) (by omega)), Int.toNat_natCast, List.append_assoc, ← Jd9 b i 0 (by omega), Jaa (Jch (by simp; omega)), Jai (by omega) (by omega)]
  exact J2i F fail ex0 b dst hb j m (i + 1) (by omega) (by omega)
theorem Jzt (dst b : List UInt8) (h : Jfi dst b = true) : ∃ F, ∀ {X : Type} (fail : X) (ret : List UInt8 → X), Jr8 F dst b fail ret = ret (Jjm dst b) := ⟨b.length + 1, fun fail ret => by
 simp only [Jfi, decide_eq_true_eq] at h
 have hl := Jnp (Jfn b.length)
 unfold Jr8
 rw [Jaa (c := Jbq _) (tt (by omega)), Jaa (c := Jmq _ _) (tt ⟨by unfold Jcj; omega, by omega, by omega⟩)]
 have := J2i (b.length + 1) fail (fun (s14 : List UInt8) (s15 : Int) (s16 : Int) (dst1 : List UInt8) => ret dst1) b (dst ++ Kx9 (Jfn b.length)) (by simp; omega) b.length (b.length + 1) 0 (by omega) (by omega)
 rw [List.take_zero, List.append_nil] at this
 exact this⟩
theorem Jkj (src : List UInt8) : 0 ≤ (Ja9 src).1 ∧ (Ja9 src).1 ≤ 9007199254740991 ∧ (Ja9 src).2.1.length ≤ src.length ∧ 0 ≤ (Ja9 src).2.2 ∧ (Ja9 src).2.2 ≤ 9 := by
 cases src with
 | nil => simp [Ja9]
 | cons b r =>
  simp only [Ja9]
  repeat' split
  all_goals (simp; try omega)
  rename_i h
  unfold K30 at h
  omega
theorem J2j (src : List UInt8) : 0 ≤ (Jeb src).1 ∧ (Jeb src).1 ≤ 9007199254740991 ∧ (Jeb src).2.1.length ≤ src.length ∧ 0 ≤ (Jeb src).2.2 ∧ (Jeb src).2.2 ≤ 9 := by
 have := Jkj src
 unfold Jeb
 simp only
 split
 ·simp
 ·exact this
theorem Kza {src : List UInt8} (h : (Ja9 src).2.2 ≠ 0) : Jeb src = Ja9 src := by simp [Jeb, h]
theorem Kzb {src : List UInt8} (h : (Ja9 src).2.2 = 0) (k : (Ja9 src).1 > 65536) : Jeb src = (0, [], 5) := by simp [Jeb, h, k]
theorem Kiu {src : List UInt8} (h : (Ja9 src).2.2 = 0) (k : ¬ (Ja9 src).1 > 65536) : Jeb src = Ja9 src := by simp [Jeb, h, k]
theorem J2k (src : List UInt8) (h : Jku src = true) : ∃ F, ∀ {X : Type} (fail : X) (ret : Int → List UInt8 → Int → X), Jum F src fail ret = ret (Jbj src) (Jbt src) (Jfg src) := ⟨0, fun fail ret => by
 unfold Jum Jbj Jbt Jfg Jeb
 rw [Jaa (c := Jec _) h]
 rw [show Ja7 src = (Ja9 src).1 from rfl, show Jay src = (Ja9 src).2.1 from rfl, show Jbz src = (Ja9 src).2.2 from rfl]
 by_cases h1 : (Ja9 src).2.2 = 0
 ·rw [Jaa (Jk8 h1)]
  by_cases h2 : (Ja9 src).1 > 65536
  ·rw [Jaa (tt h2), if_pos ⟨h1, h2⟩]
  ·rw [Jab (ff h2), if_neg (fun h => h2 h.2)]
 ·rw [Jab (Jl3 h1), if_neg (fun h => h1 h.1)]⟩
theorem J4o (src : List UInt8) (h : Jes src = true) : ∃ F, ∀ {X : Type} (fail : X) (ret : List UInt8 → List UInt8 → Int → X), Jzn F src fail ret = ret (Jcx src) (Jcy src) (Jcz src) := ⟨0, fun fail ret => by
 have h0 := h
 simp only [Jes, decide_eq_true_eq] at h0
 have hr := J2j src
 unfold Jzn Jcx Jcy Jcz Jbe
 rw [Jaa (c := Jku _) h]
 rw [show Jbj src = (Jeb src).1 from rfl, show Jbt src = (Jeb src).2.1 from rfl, show Jfg src = (Jeb src).2.2 from rfl]
 by_cases h1 : (Jeb src).2.2 = 0
 ·rw [Jab (Jgm h1), if_neg (by simpa using h1)]
  by_cases h2 : ((Jeb src).2.1.length : Int) < (Jeb src).1
  ·rw [Jaa (tt h2), if_pos h2]
  ·rw [Jab (ff h2), if_neg h2, Jaa (tt2 (by omega) (by omega)), Jaa (c := Jer _) (tt (by simp; omega)), Jaa (tt2 (by omega) (by omega)), Jaa (c := Jer _) (tt (by simp; omega))]
   unfold Ji3
   rw [List.take_of_length_le (l := List.drop _ _) (by simp)]
 ·rw [Jaa (Jhl h1), if_pos (by simpa using h1)]⟩
theorem J7l (src : List UInt8) (h : Jgt src = true) : ∃ F, ∀ {X : Type} (fail : X) (ret : List UInt8 → List UInt8 → Int → X), J4h F src fail ret = ret (Jet src) (Jeu src) (Jc3 src) := ⟨0, fun fail ret => by
 have h0 := h
 simp only [Jgt, decide_eq_true_eq] at h0
 have hr := Jkj src
 unfold J4h Jet Jeu Jc3
 rw [Jaa (c := Jfh _) h]
 rw [show Jas src = (Ja9 src).1 from rfl, show Jaq src = (Ja9 src).2.1 from rfl, show Jbk src = (Ja9 src).2.2 from rfl]
 by_cases h1 : (Ja9 src).2.2 = 0
 ·rw [Jaa (Jk8 h1)]
  by_cases h3 : (Ja9 src).1 > 65536
  ·have e : Jbe src = ([], [], 5) := by simp [Jbe, Kzb h1 h3]
   rw [Jaa (tt h3), e]
  rw [Jab (ff h3), Jab (Jgm h1)]
  by_cases h2 : ((Ja9 src).2.1.length : Int) < (Ja9 src).1
  ·have e : Jbe src = ([], [], 9) := by simp [Jbe, Kiu h1 h3, h1, h2]
   rw [Jaa (tt h2), e]
  ·have e : Jbe src = ((Ja9 src).2.1.take (Ja9 src).1.toNat, (Ja9 src).2.1.drop (Ja9 src).1.toNat, 0) := by simp [Jbe, Kiu h1 h3, h1, h2]
   rw [Jab (ff h2), e, Jaa (tt2 (by omega) (by omega)), Jaa (c := Jbq _) (tt (by simp; omega)), Jaa (tt2 (by omega) (by omega)), Jaa (c := Jbq _) (tt (by simp; omega))]
   rfl
 ·have e : Jbe src = ([], [], (Ja9 src).2.2) := by simp [Jbe, Kza h1, h1]
  rw [Jab (Jl3 h1), Jaa (Jhl h1), e]⟩
end Go.AI
