/- Texts of the proof, joined: TopP. -/
import Derived.Test.YtnmidfcefljafaaGreatQeG
import Derived.Test.YtnmidfcefljafaaGreatQeTopC
namespace Go.AI
open Go
theorem gBegin_plain (_ : gBegin_P = true) : ∃ F, ∀ {X : Type} (fail : X) (ret : DK → LogT → Bool → X), gBegin F fail ret = ret gBegin_r0 gBegin_r1 gBegin_r2 := ⟨0, fun fail ret => by
 obtain ⟨b1, b2, b3, b4, b5, b6⟩ := begin_valsT 200 (by omega) (by omega)
 rw [show ((200 : Nat) : Int) = 200 from rfl] at b1 b2 b3 b4 b5 b6
 unfold gBegin
 rw [b1, b2, b3, b4, b5, b6]; rfl⟩
abbrev gK : Bys := [107, 101, 121]
abbrev gR : List Rec := [(1, ([97, 98], ()))]
theorem gR_ok : TrOk gK gR := ⟨by decide +kernel, .inr ⟨by decide, by decide +kernel⟩⟩
theorem gCommitted_plain (_ : gCommitted_P = true) : ∃ F, ∀ {X : Type} (fail : X) (ret : Bool → X), gCommitted F fail ret = ret gCommitted_r := ⟨0, fun fail ret => by
 have ht := TrLog.fresh gK 200 (by omega)
 have eB : gBegin_r0 = still (headP :: List.replicate (200 - 1) z16) := rfl
 generalize (headP :: List.replicate (200 - 1) z16 : List Page) = s0 at ht eB
 have he := room_ofT ht (by omega) (by omega) gR_ok (by decide)
 obtain ⟨r1, r2, s', i, r3, r4⟩ := ht.run (by omega) (by omega) gR_ok he
 obtain ⟨p1, p2, p3, p4⟩ := r4.replay (by decide) (by omega) (by omega)
 have hs := r4.sam (by omega)
 have E0 : dRun_r0 (still s0) (tCommit_r1 (lgT gK [] 200) gK gR) = still s' := by
  show (runD (still s0) (comO (lgT gK [] 200) gK gR)).1 = _
  rw [r3]
 have E2 : dRun_r2 (still s0) (tCommit_r1 (lgT gK [] 200) gK gR) = 0 := by
  show (runD (still s0) (comO (lgT gK [] 200) gK gR)).2.2 = _
  rw [r3]
 unfold gCommitted
 rw [eB, show gBegin_r1 = lgT gK [] 200 from rfl, E0, E2]
 refine bif_eqt rfl (bif_eqt rfl (bif_eqt r1 (bif_eqt p1 (bif_eqt rfl (bif_eqt (beq_t he) (bif_eqt rfl (bif_eqt (beq_t p2) ?_)))))))
 rw [show tReplay_r0 (still s') gK = lgT gK ([] ++ [gR]) 200 from p3, show tCommit_r0 (lgT gK [] 200) gK gR = lgT gK ([] ++ [gR]) 200 from r2, show tReplay_r1 (still s') gK = [gR] from p4]
 exact bif_eqt (beq_lgT _) (bif_eqt (show (samA [gR] && samA [gR]) = true by rw [show samA [gR] = true from hs]; rfl) (congrArg ret (show decide (([gR] : List (List Rec)) = [gR]) = true from tt rfl)))⟩
end Go.AI
