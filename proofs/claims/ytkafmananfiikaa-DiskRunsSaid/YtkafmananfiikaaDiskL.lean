/- The machine runs as the plain functions say. -/
import Derived.Test.YtkafmananfiikaaDiskM2
import Derived.Test.YtkafmananfiikaaDiskP5
import Derived.KernelRfl
namespace Go.AI
open Go
set_option linter.unusedVariables false

def DiskReads_orc : Orc := Orc.of [.d (.pair (.slc (.arr 16 (.int .u8))) (.pair (.slc (.pair (.int .i64) (.pair (.arr 16 (.int .u8)) .unit))) .unit)), .d (.int .i64), .d (.int .i64)] true 0 fun x => (DiskReads_P x.1 x.2.1 x.2.2.1, [.d .bool (DiskReads_r x.1 x.2.1 x.2.2.1)])
def DiskReads_orcs : List (FuncId × Orc) := [(10, rFew_orc), (11, law48_awake_orc), (12, dRead_orc), (13, rRead_orc), (14, dNew_orc), (15, rNew_orc), (16, rSamePages_orc), (17, rSame_orc), (18, dCheck_orc), (19, rCheck_orc)]
def DiskReads_book0 : Book := { Γ := gam, orc := orcsOf DiskReads_orcs, hint := hintsOf [] }
def DiskReads_lo (F : Nat) : List (LoE Unit) := []
def DiskReads_book (F : Nat) : BookL Unit := { toBook := DiskReads_book0, lo := losOf (DiskReads_lo F), need := needsOf [] }
theorem DiskReads_loOk (F : Nat) : LoOk Go.Proofs.Try.prog (DiskReads_book F) F := loOk_of (l := DiskReads_lo F) rfl (fun _ h => nomatch h)
set_option maxRecDepth 100000 in
theorem DiskReads_run (F : Nat) (d_ : ((List (List UInt8)) × ((List (Int × ((List UInt8) × Unit))) × Unit))) (at_ : Int) (count : Int) (kend : List BV → Option Unit) : runFnL Go.Proofs.Try.prog (DiskReads_book F) F 20 3 [.d (.pair (.slc (.arr 16 (.int .u8))) (.pair (.slc (.pair (.int .i64) (.pair (.arr 16 (.int .u8)) .unit))) .unit)) d_, .d (.int .i64) at_, .d (.int .i64) count] [.d .bool] kend = DiskReads F d_ at_ count none (fun y0 => kend [BV.d .bool y0]) := by kernel_rfl
theorem DiskReads_contract : Contract Go.Proofs.Try.prog 3 DiskReads_orc := contract_of_runL (B0 := DiskReads_book0) (noNumB_ok num_ok) (rangesB_ok rng_ok) mix_ok (gamB_ok gam_ok) (orcsOf_ok (List.forall_mem_cons.2 ⟨rFew_contract, (List.forall_mem_cons.2 ⟨law48_awake_contract, (List.forall_mem_cons.2 ⟨dRead_contract, (List.forall_mem_cons.2 ⟨rRead_contract, (List.forall_mem_cons.2 ⟨dNew_contract, (List.forall_mem_cons.2 ⟨rNew_contract, (List.forall_mem_cons.2 ⟨rSamePages_contract, (List.forall_mem_cons.2 ⟨rSame_contract, (List.forall_mem_cons.2 ⟨dCheck_contract, (List.forall_mem_cons.2 ⟨rCheck_contract, (fun _ h => nomatch h)⟩)⟩)⟩)⟩)⟩)⟩)⟩)⟩)⟩)⟩)) (by kernel_rfl) (fun x h => by
  obtain ⟨F, hF⟩ := DiskReads_plain x.1 x.2.1 x.2.2.1 h
  exact ⟨F, 20, DiskReads_book F, rfl, DiskReads_loOk F, fun kend => (DiskReads_run F x.1 x.2.1 x.2.2.1 kend).trans (hF none (fun y0 => kend [BV.d .bool y0]))⟩)

def DiskRuns_orc : Orc := Orc.of [.d (.pair (.slc (.arr 16 (.int .u8))) (.pair (.slc (.pair (.int .i64) (.pair (.arr 16 (.int .u8)) .unit))) .unit)), .d (.slc (.pair (.int .i64) (.pair (.int .i64) (.pair (.slc (.arr 16 (.int .u8))) .unit))))] true 0 fun x => (DiskRuns_P x.1 x.2.1, [.d .bool (DiskRuns_r x.1 x.2.1)])
def DiskRuns_orcs : List (FuncId × Orc) := [(10, rFew_orc), (11, law48_awake_orc), (17, rSame_orc), (20, rFewOps_orc), (21, dRun_orc), (22, rRun_orc)]
def DiskRuns_book0 : Book := { Γ := gam, orc := orcsOf DiskRuns_orcs, hint := hintsOf [] }
def DiskRuns_lo (F : Nat) : List (LoE Unit) := []
def DiskRuns_book (F : Nat) : BookL Unit := { toBook := DiskRuns_book0, lo := losOf (DiskRuns_lo F), need := needsOf [] }
theorem DiskRuns_loOk (F : Nat) : LoOk Go.Proofs.Try.prog (DiskRuns_book F) F := loOk_of (l := DiskRuns_lo F) rfl (fun _ h => nomatch h)
set_option maxRecDepth 100000 in
theorem DiskRuns_run (F : Nat) (d_ : ((List (List UInt8)) × ((List (Int × ((List UInt8) × Unit))) × Unit))) (l : List (Int × (Int × ((List (List UInt8)) × Unit)))) (kend : List BV → Option Unit) : runFnL Go.Proofs.Try.prog (DiskRuns_book F) F 20 4 [.d (.pair (.slc (.arr 16 (.int .u8))) (.pair (.slc (.pair (.int .i64) (.pair (.arr 16 (.int .u8)) .unit))) .unit)) d_, .d (.slc (.pair (.int .i64) (.pair (.int .i64) (.pair (.slc (.arr 16 (.int .u8))) .unit)))) l] [.d .bool] kend = DiskRuns F d_ l none (fun y0 => kend [BV.d .bool y0]) := by kernel_rfl
theorem DiskRuns_contract : Contract Go.Proofs.Try.prog 4 DiskRuns_orc := contract_of_runL (B0 := DiskRuns_book0) (noNumB_ok num_ok) (rangesB_ok rng_ok) mix_ok (gamB_ok gam_ok) (orcsOf_ok (List.forall_mem_cons.2 ⟨rFew_contract, (List.forall_mem_cons.2 ⟨law48_awake_contract, (List.forall_mem_cons.2 ⟨rSame_contract, (List.forall_mem_cons.2 ⟨rFewOps_contract, (List.forall_mem_cons.2 ⟨dRun_contract, (List.forall_mem_cons.2 ⟨rRun_contract, (fun _ h => nomatch h)⟩)⟩)⟩)⟩)⟩)⟩)) (by kernel_rfl) (fun x h => by
  obtain ⟨F, hF⟩ := DiskRuns_plain x.1 x.2.1 h
  exact ⟨F, 20, DiskRuns_book F, rfl, DiskRuns_loOk F, fun kend => (DiskRuns_run F x.1 x.2.1 kend).trans (hF none (fun y0 => kend [BV.d .bool y0]))⟩)

def DiskCrashes_orc : Orc := Orc.of [.d (.pair (.slc (.arr 16 (.int .u8))) (.pair (.slc (.pair (.int .i64) (.pair (.arr 16 (.int .u8)) .unit))) .unit)), .d (.slc (.pair (.int .i64) (.pair (.int .i64) (.pair (.slc (.arr 16 (.int .u8))) .unit)))), .d (.pair (.int .i64) (.pair (.slc (.int .i64)) .unit))] true 0 fun x => (DiskCrashes_P x.1 x.2.1 x.2.2.1, [.d .bool (DiskCrashes_r x.1 x.2.1 x.2.2.1)])
def DiskCrashes_orcs : List (FuncId × Orc) := [(10, rFew_orc), (11, law48_awake_orc), (17, rSame_orc), (20, rFewOps_orc), (24, dCrash_orc), (25, rSameInts_orc), (26, dInterrupt_orc), (27, rInterrupt_orc), (28, rCrash_orc)]
def DiskCrashes_book0 : Book := { Γ := gam, orc := orcsOf DiskCrashes_orcs, hint := hintsOf [] }
def DiskCrashes_lo (F : Nat) : List (LoE Unit) := []
def DiskCrashes_book (F : Nat) : BookL Unit := { toBook := DiskCrashes_book0, lo := losOf (DiskCrashes_lo F), need := needsOf [] }
theorem DiskCrashes_loOk (F : Nat) : LoOk Go.Proofs.Try.prog (DiskCrashes_book F) F := loOk_of (l := DiskCrashes_lo F) rfl (fun _ h => nomatch h)
set_option maxRecDepth 100000 in
theorem DiskCrashes_run (F : Nat) (d_ : ((List (List UInt8)) × ((List (Int × ((List UInt8) × Unit))) × Unit))) (l : List (Int × (Int × ((List (List UInt8)) × Unit)))) (b : (Int × ((List Int) × Unit))) (kend : List BV → Option Unit) : runFnL Go.Proofs.Try.prog (DiskCrashes_book F) F 20 8 [.d (.pair (.slc (.arr 16 (.int .u8))) (.pair (.slc (.pair (.int .i64) (.pair (.arr 16 (.int .u8)) .unit))) .unit)) d_, .d (.slc (.pair (.int .i64) (.pair (.int .i64) (.pair (.slc (.arr 16 (.int .u8))) .unit)))) l, .d (.pair (.int .i64) (.pair (.slc (.int .i64)) .unit)) b] [.d .bool] kend = DiskCrashes F d_ l b none (fun y0 => kend [BV.d .bool y0]) := by kernel_rfl
theorem DiskCrashes_contract : Contract Go.Proofs.Try.prog 8 DiskCrashes_orc := contract_of_runL (B0 := DiskCrashes_book0) (noNumB_ok num_ok) (rangesB_ok rng_ok) mix_ok (gamB_ok gam_ok) (orcsOf_ok (List.forall_mem_cons.2 ⟨rFew_contract, (List.forall_mem_cons.2 ⟨law48_awake_contract, (List.forall_mem_cons.2 ⟨rSame_contract, (List.forall_mem_cons.2 ⟨rFewOps_contract, (List.forall_mem_cons.2 ⟨dCrash_contract, (List.forall_mem_cons.2 ⟨rSameInts_contract, (List.forall_mem_cons.2 ⟨dInterrupt_contract, (List.forall_mem_cons.2 ⟨rInterrupt_contract, (List.forall_mem_cons.2 ⟨rCrash_contract, (fun _ h => nomatch h)⟩)⟩)⟩)⟩)⟩)⟩)⟩)⟩)⟩)) (by kernel_rfl) (fun x h => by
  obtain ⟨F, hF⟩ := DiskCrashes_plain x.1 x.2.1 x.2.2.1 h
  exact ⟨F, 20, DiskCrashes_book F, rfl, DiskCrashes_loOk F, fun kend => (DiskCrashes_run F x.1 x.2.1 x.2.2.1 kend).trans (hF none (fun y0 => kend [BV.d .bool y0]))⟩)

end Go.AI
