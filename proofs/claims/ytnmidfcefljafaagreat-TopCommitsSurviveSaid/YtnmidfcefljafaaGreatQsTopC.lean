/- Texts of the proof, joined: TopC. Names of our own are shortened by program; the long ones stand in wip/. -/
import Derived.Test.YtnmidfcefljafaaGreatQsTransC
import Derived.Test.YtnmidfcefljafaaGreatQsS
namespace Go.AI
open Go
theorem Kdx.sam {key : Bys} {r : List Rec} (h : Kdx key r) : K0i r = true := by
 have := (Kqj (K4l h.enc).1).1
 exact tt (by omega)
theorem K63 {l : List (List Rec)} (h : ∀ r, r ∈ l → K0i r = true) (hl : l.length ≤ 1000000) : Kfj l = true := by
 unfold Kfj
 rw [Bool.and_eq_true, decide_eq_true_eq]
 exact ⟨by omega, List.all_eq_true.2 h⟩
theorem Jh0.sam {key : Bys} {n : Nat} {s : List Ja4} {done : List (List Rec)} (h : Jh0 key n s done) (hn : n ≤ 8192) : Kfj done = true :=
 K63 (fun r hr => (h.ok r hr).sam) (by have := h.few; omega)
theorem K2z {key : Bys} {n : Nat} {s : List Ja4} {done : List (List Rec)} {r : List Rec} (ht : Jh0 key n s done) (h1 : 2 ≤ n) (h2 : n ≤ 8192) (hr : Kdx key r) (h : 53 * done.length + wS done + wR r + 68 ≤ 15 * n) : Kfk (lgT key done n) key r = 0 := by
 have hw := K4o key done 1 1
 have hp := K4n key ((1 + done.length : Nat) : Int) r
 rcases ht.err h1 h2 hr with ⟨e, _⟩ | ⟨_, e⟩
 ·exact e
 ·exfalso
  unfold Jas at e
  omega
theorem K85 {l : Jf5} {key : Bys} {r : List Rec} (h : Kfk l key r = 0) : Kdx key r := by
 unfold Kfk at h
 by_cases c : J5w l = 0
 ·rw [if_pos c] at h
  by_cases c2 : Kkx key (l.2.1 + 1) r = 0
  ·exact Kdx.of c2
  ·rw [if_neg c2] at h; exact absurd h c2
 ·rw [if_neg c] at h; exact absurd h c
theorem J8e {n : Nat} (h1 : 1 ≤ n) (h2 : n ≤ 8192) : K3o n = Ja8 (List.replicate n z16) := by
 unfold K3o
 rw [if_pos (by omega), Int.toNat_natCast]; rfl
theorem Kmd (n : Nat) (h1 : 2 ≤ n) (h2 : n ≤ 8192) : Jvr (Jkq (n : Int)) (Jeh (n : Int)) = true ∧ Jdl (Jkq (n : Int)) (Jeh (n : Int)) = begT n ∧ Jh8 (Jkq (n : Int)) (Jeh (n : Int)) = 0 ∧ Jmm (n : Int) = 0 ∧ J2u (n : Int) = 0 ∧ Jib (n : Int) = (1, (0, ((n : Int), ()))) := by
 have hl : (List.replicate n z16).length = n := List.length_replicate
 have b2 : Jo3 (K3o (n : Int)) (K0g (n : Int)) = (begT n, (4, 0)) := by rw [J8e (by omega) h2, K6q hl h1 h2]; rfl
 refine ⟨?_, ?_, ?_, if_pos (by omega), if_pos (by omega), if_pos (by omega)⟩
 ·show Ktz (K3o (n : Int)) (K0g (n : Int)) = true
  rw [J8e (by omega) h2]
  have e : K0g n = [wrO 0 (List.replicate n z16), syO, wrO 0 [Jhe], syO] := by unfold K0g; rw [if_pos (by omega), Int.toNat_natCast]
  refine Jt4.2 ⟨by show (List.replicate n z16).length ≤ _; omega, Nat.zero_le _, by rw [e]; simp, ?_⟩
  rw [e]
  show (List.replicate n z16).length + (0 + (1 + (0 + 0))) ≤ _
  omega
 ·show (Jo3 (K3o (n : Int)) (K0g (n : Int))).1 = _
  rw [b2]
 ·show (Jo3 (K3o (n : Int)) (K0g (n : Int))).2.2 = _
  rw [b2]
end Go.AI
