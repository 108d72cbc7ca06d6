/- The closed call: a lost volume is recovered. -/
import Derived.Test.YtaoimnfmhdmkmaaVolN
import Derived.Test.YtaoimnfmhdmkmaaVolQ
import Derived.KernelRfl
noncomputable section
namespace Go.AI
open Go
open Go.Proofs.Try (prog)
set_option maxRecDepth 100000

def vJoin_orcs : List (FuncId × Orc) := [(28, cSum_orc), (46, sCat_orc), (10, pRepair_orc)]
def vJoin_book : BookL Unit := { Γ := gam, orc := orcsOf vJoin_orcs, hint := hintsB [] }
theorem vJoin_loOk (F : Nat) : LoOk prog vJoin_book F := loOk_of (l := []) rfl (fun _ h => nomatch h)
def vJoin_t (y : ArgsT [.d SB, .d (.int .i64)]) : Bool := y.1 == textB && y.2.1 == (0 : Int)
theorem vJoin_run : runFnL prog vJoin_book 300 20 12 [.d (.slc SB) leftB] [.d SB, .d (.int .i64)] (endIs [.d SB, .d (.int .i64)] vJoin_t) = some () := by kernel_rfl
theorem vJoin_is (y : ArgsT [.d SB, .d (.int .i64)]) (h : vJoin_t y = true) : y = (textB, (0 : Int), ()) := by
  unfold vJoin_t at h
  rw [Bool.and_eq_true, beq_iff_eq, beq_iff_eq] at h
  obtain ⟨a, b, u⟩ := y
  obtain ⟨h1, h2⟩ := h
  simp only at h1 h2
  rw [h1, h2]
theorem vJoin_all (l : Mat) (h : vMissing_P l = true) : runFnL prog vJoin_book 300 20 12 [.d (.slc SB) l] [.d SB, .d (.int .i64)] (endIs [.d SB, .d (.int .i64)] vJoin_t) = some () := by
  unfold vMissing_P at h
  rw [beq_iff_eq] at h
  subst h
  exact vJoin_run
@[reducible] def vJoin_ps : List PM := [.d (.slc SB)]
def vJoin_orc : Orc := Orc.of vJoin_ps false 0 fun x => (vMissing_P x.1, [.d SB textB, .d (.int .i64) (0 : Int)])
theorem vJoin_contract : Contract prog 12 vJoin_orc := contract_of_runE (B0 := vJoin_book.toBook) (noNumB_ok num_ok) (rangesB_ok rng_ok) mix_ok (gamB_ok gam_ok) (orcsOf_ok (fa cSum_contract (fa sCat_contract (fa pRepair_contract fz)))) (by kernel_rfl)
  (fun x h => ⟨300, 20, vJoin_book, vJoin_t, (textB, (0 : Int), ()), rfl, vJoin_loOk 300, vJoin_is, rfl, vJoin_all x.1 h⟩)

def caseRec_orcs : List (FuncId × Orc) := [(11, vSplit_orc), (12, vJoin_orc), (13, vMissing_orc)]
def caseRec_book : BookL Unit := { Γ := gam, orc := orcsOf caseRec_orcs, hint := hintsB [] }
theorem caseRec_loOk (F : Nat) : LoOk prog caseRec_book F := loOk_of (l := []) rfl (fun _ h => nomatch h)
theorem caseRec_run (kend : List BV → Option Unit) : runFnL prog caseRec_book 300 20 4 [] [.d .bool] kend = kend [.d .bool caseRec_r] := by kernel_rfl
@[reducible] def caseRec_ps : List PM := []
def caseRec_orc : Orc := Orc.of caseRec_ps true 0 fun _ => (caseRec_P, [.d .bool (caseRec_r)])
theorem caseRec_contract : Contract prog 4 caseRec_orc := contract_of_runL (B0 := caseRec_book.toBook) (noNumB_ok num_ok) (rangesB_ok rng_ok) mix_ok (gamB_ok gam_ok) (orcsOf_ok (fa vSplit_contract (fa vJoin_contract (fa vMissing_contract fz)))) (by kernel_rfl)
  (fun _ _ => ⟨300, 20, caseRec_book, rfl, caseRec_loOk 300, caseRec_run⟩)
end Go.AI
