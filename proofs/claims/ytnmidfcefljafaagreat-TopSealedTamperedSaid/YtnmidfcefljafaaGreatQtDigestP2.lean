/- Texts of the proof, joined: DigestP2. -/
import Derived.Test.YtnmidfcefljafaaGreatQtDigestP
import Derived.KernelRfl
namespace Go.AI
open Go
theorem len8 {l : List UInt32} (h : l.length = 8) : ∃ a b c d e f g i, l = [a, b, c, d, e, f, g, i] := by
 match l, h with
 | [a, b, c, d, e, f, g, i], _ => exact ⟨a, b, c, d, e, f, g, i, rfl⟩
theorem rds_len (b : List UInt8) (s : List UInt32) (t : Nat) : (rds b s t).length = 8 := by
 rw [← rds_form]; rfl
theorem ab_l3 {X : Type} (fail : X) (ex : Int → List UInt32 → List UInt32 → List UInt32 → X) (s s4 x : List UInt32) (hs : s.length = 8) (hx : x.length = 8) :
  absorb_l3F 99 fail ex 99 0 s s4 x = ex 8 s s4 (add8 x s) := by
 obtain ⟨s0, s1, s2, s3, s4', s5, s6, s7, rfl⟩ := len8 hs
 obtain ⟨x0, x1, x2, x3, x4, x5, x6, x7, rfl⟩ := len8 hx
 kernel_rfl
theorem absorb_plain (s : List UInt32) (b : List UInt8) (h : absorb_P s b = true) : ∃ F, ∀ {X : Type} (fail : X) (ret : List UInt32 → X), absorb F s b fail ret = ret (absorb_r s b) := ⟨99, fun fail ret => by
 simp only [absorb_P, decide_eq_true_eq] at h
 unfold absorb
 rw [bif_true (c := consts_P) rfl]
 have hl := ab_l1 99 rfl fail (fun (_ : List UInt32) (_ : Int) (x_ : List UInt32) (_ : List UInt8) (_ : List UInt32) (s2 : List UInt32) (s4 : List UInt32) =>
   absorb_l3F 99 fail (fun (_ : Int) (_ : List UInt32) (_ : List UInt32) (x_1 : List UInt32) => ret x_1) 99 (0 : Int) s2 s4 x_) b h.2 s s [0, 0, 0, 0, 0, 0, 0, 0] 64 98 0 rfl (by omega)
 rw [show rds b s 0 = s from n8_len h.1] at hl
 refine hl.trans ?_
 rw [ab_l3 fail _ s _ _ h.1 (rds_len b s 64)]
 show ret (absW s b) = ret (absS s (b.take 64))
 rw [absS_take]⟩
end Go.AI
