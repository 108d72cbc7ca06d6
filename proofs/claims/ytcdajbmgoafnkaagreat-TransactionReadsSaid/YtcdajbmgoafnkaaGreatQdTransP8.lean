/- Texts of the proof, joined: TransP8. -/
import Derived.Test.YtcdajbmgoafnkaaGreatQdG
import Derived.Test.YtcdajbmgoafnkaaGreatQdTransP7
namespace Go.AI
open Go
def TransactionReads_P (_ : List (List Rec)) (_ : Bys) : Bool := true
def TransactionReads_r (_ : List (List Rec)) (_ : Bys) : Bool := true
theorem TransactionReads_plain (l : List (List Rec)) (key : Bys) (_ : TransactionReads_P l key = true) : ∃ F, ∀ {X : Type} (fail : X) (ret : Bool → X), TransactionReads F l key fail ret = ret (TransactionReads_r l key) := ⟨0, fun fail ret => by
 unfold TransactionReads
 refine bif_eqt rfl ?_
 cases hf : fewT l key with
 | false => exact bif_eqt (show (!fewT l key) = true by rw [hf]; rfl) rfl
 | true =>
 refine bif_eqf (show (!fewT l key) = false by rw [hf]; rfl) (bif_eqt hf ?_)
 obtain ⟨s', h1, h2, h3⟩ := cm_ok hf
 obtain ⟨r1, r2, r3, r4⟩ := h1.replay (fewT_iff.1 hf).2.2.2 (by omega) (by omega)
 have hs := samA_few hf
 rw [h2, h3]
 refine bif_eqt r1 (bif_eqt rfl (bif_eqt rfl (bif_eqt (beq_t r2) ?_)))
 rw [show tReplay_r0 (still s') key = lgT key l 400 from r3, show tReplay_r1 (still s') key = l from r4]
 exact bif_eqt (beq_lgT _) (bif_eqt (show (samA l && samA l) = true by rw [hs]; rfl) (congrArg ret (show decide (l = l) = true from tt rfl)))⟩
end Go.AI
