/- Texts of the proof, joined: DigestP2. Names of our own are shortened by program; the long ones stand in wip/. -/
import Derived.Test.YtnmidfcefljafaaGreatQsDigestP
import Derived.KernelRfl
namespace Go.AI
open Go
theorem K8s {l : List UInt32} (h : l.length = 8) : ∃ a b c d e f g i, l = [a, b, c, d, e, f, g, i] := by
 match l, h with
 | [a, b, c, d, e, f, g, i], _ => exact ⟨a, b, c, d, e, f, g, i, rfl⟩
theorem K59 (b : List UInt8) (s : List UInt32) (t : Nat) : (rds b s t).length = 8 := by
 rw [← Kpz]; rfl
theorem ab_l3 {X : Type} (fail : X) (ex : Int → List UInt32 → List UInt32 → List UInt32 → X) (s s4 x : List UInt32) (hs : s.length = 8) (hx : x.length = 8) :
  Jmr 99 fail ex 99 0 s s4 x = ex 8 s s4 (add8 x s) := by
 obtain ⟨s0, s1, s2, s3, s4', s5, s6, s7, rfl⟩ := K8s hs
 obtain ⟨x0, x1, x2, x3, x4, x5, x6, x7, rfl⟩ := K8s hx
 kernel_rfl
theorem Kf2 (s : List UInt32) (b : List UInt8) (h : Jvt s b = true) : ∃ F, ∀ {X : Type} (fail : X) (ret : List UInt32 → X), Kwd F s b fail ret = ret (Kah s b) := ⟨99, fun fail ret => by
 simp only [Jvt, decide_eq_true_eq] at h
 unfold Kwd
 rw [Jaa (c := J07) rfl]
 have hl := K8r 99 rfl fail (fun (_ : List UInt32) (_ : Int) (x_ : List UInt32) (_ : List UInt8) (_ : List UInt32) (s2 : List UInt32) (s4 : List UInt32) =>
   Jmr 99 fail (fun (_ : Int) (_ : List UInt32) (_ : List UInt32) (x_1 : List UInt32) => ret x_1) 99 (0 : Int) s2 s4 x_) b h.2 s s [0, 0, 0, 0, 0, 0, 0, 0] 64 98 0 rfl (by omega)
 rw [show rds b s 0 = s from K8n h.1] at hl
 refine hl.trans ?_
 rw [ab_l3 fail _ s _ _ h.1 (K59 b s 64)]
 show ret (K79 s b) = ret (K3p s (b.take 64))
 rw [Kw3]⟩
end Go.AI
