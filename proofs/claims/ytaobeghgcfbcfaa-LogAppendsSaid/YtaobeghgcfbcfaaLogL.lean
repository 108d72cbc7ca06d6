/- The machine runs as the plain functions say. -/
import Derived.Test.YtaobeghgcfbcfaaLogM2
import Derived.Test.YtaobeghgcfbcfaaLogP8
import Derived.KernelRfl
namespace Go.AI
open Go
set_option linter.unusedVariables false

def LogFormats_orc : Orc := Orc.of [.d (.pair (.int .i64) (.pair (.int .i64) (.pair (.int .i64) .unit))), .d (.int .i64)] true 0 fun x => (LogFormats_P x.1 x.2.1, [.d .bool (LogFormats_r x.1 x.2.1)])
def LogFormats_orcs : List (FuncId × Orc) := [(10, law49_awake_orc), (11, lFormat_orc), (12, qFormat_orc), (13, lPages_orc), (14, qPages_orc), (15, lCheck_orc), (16, qLCheck_orc), (17, rSameOps_orc)]
def LogFormats_book0 : Book := { Γ := gam, orc := orcsOf LogFormats_orcs, hint := hintsOf [] }
def LogFormats_lo (F : Nat) : List (LoE Unit) := []
def LogFormats_book (F : Nat) : BookL Unit := { toBook := LogFormats_book0, lo := losOf (LogFormats_lo F), need := needsOf [] }
theorem LogFormats_loOk (F : Nat) : LoOk Go.Proofs.Try.prog (LogFormats_book F) F := loOk_of (l := LogFormats_lo F) rfl (fun _ h => nomatch h)
set_option maxRecDepth 100000 in
theorem LogFormats_run (F : Nat) (l : (Int × (Int × (Int × Unit)))) (n : Int) (kend : List BV → Option Unit) : runFnL Go.Proofs.Try.prog (LogFormats_book F) F 20 3 [.d (.pair (.int .i64) (.pair (.int .i64) (.pair (.int .i64) .unit))) l, .d (.int .i64) n] [.d .bool] kend = LogFormats F l n none (fun y0 => kend [BV.d .bool y0]) := by kernel_rfl
theorem LogFormats_contract : Contract Go.Proofs.Try.prog 3 LogFormats_orc := contract_of_runL (B0 := LogFormats_book0) (noNumB_ok num_ok) (rangesB_ok rng_ok) mix_ok (gamB_ok gam_ok) (orcsOf_ok (List.forall_mem_cons.2 ⟨law49_awake_contract, (List.forall_mem_cons.2 ⟨lFormat_contract, (List.forall_mem_cons.2 ⟨qFormat_contract, (List.forall_mem_cons.2 ⟨lPages_contract, (List.forall_mem_cons.2 ⟨qPages_contract, (List.forall_mem_cons.2 ⟨lCheck_contract, (List.forall_mem_cons.2 ⟨qLCheck_contract, (List.forall_mem_cons.2 ⟨rSameOps_contract, (fun _ h => nomatch h)⟩)⟩)⟩)⟩)⟩)⟩)⟩)⟩)) (by kernel_rfl) (fun x h => by
  obtain ⟨F, hF⟩ := LogFormats_plain x.1 x.2.1 h
  exact ⟨F, 20, LogFormats_book F, rfl, LogFormats_loOk F, fun kend => (LogFormats_run F x.1 x.2.1 kend).trans (hF none (fun y0 => kend [BV.d .bool y0]))⟩)

def LogAppends_orc : Orc := Orc.of [.d (.pair (.int .i64) (.pair (.int .i64) (.pair (.int .i64) .unit))), .d (.slc (.int .u8))] true 0 fun x => (LogAppends_P x.1 x.2.1, [.d .bool (LogAppends_r x.1 x.2.1)])
def LogAppends_orcs : List (FuncId × Orc) := [(10, law49_awake_orc), (17, rSameOps_orc), (18, lAppend_orc), (19, qAppend_orc)]
def LogAppends_book0 : Book := { Γ := gam, orc := orcsOf LogAppends_orcs, hint := hintsOf [] }
def LogAppends_lo (F : Nat) : List (LoE Unit) := []
def LogAppends_book (F : Nat) : BookL Unit := { toBook := LogAppends_book0, lo := losOf (LogAppends_lo F), need := needsOf [] }
theorem LogAppends_loOk (F : Nat) : LoOk Go.Proofs.Try.prog (LogAppends_book F) F := loOk_of (l := LogAppends_lo F) rfl (fun _ h => nomatch h)
set_option maxRecDepth 100000 in
theorem LogAppends_run (F : Nat) (l : (Int × (Int × (Int × Unit)))) (payload : List UInt8) (kend : List BV → Option Unit) : runFnL Go.Proofs.Try.prog (LogAppends_book F) F 20 4 [.d (.pair (.int .i64) (.pair (.int .i64) (.pair (.int .i64) .unit))) l, .d (.slc (.int .u8)) payload] [.d .bool] kend = LogAppends F l payload none (fun y0 => kend [BV.d .bool y0]) := by kernel_rfl
theorem LogAppends_contract : Contract Go.Proofs.Try.prog 4 LogAppends_orc := contract_of_runL (B0 := LogAppends_book0) (noNumB_ok num_ok) (rangesB_ok rng_ok) mix_ok (gamB_ok gam_ok) (orcsOf_ok (List.forall_mem_cons.2 ⟨law49_awake_contract, (List.forall_mem_cons.2 ⟨rSameOps_contract, (List.forall_mem_cons.2 ⟨lAppend_contract, (List.forall_mem_cons.2 ⟨qAppend_contract, (fun _ h => nomatch h)⟩)⟩)⟩)⟩)) (by kernel_rfl) (fun x h => by
  obtain ⟨F, hF⟩ := LogAppends_plain x.1 x.2.1 h
  exact ⟨F, 20, LogAppends_book F, rfl, LogAppends_loOk F, fun kend => (LogAppends_run F x.1 x.2.1 kend).trans (hF none (fun y0 => kend [BV.d .bool y0]))⟩)

def LogScans_orc : Orc := Orc.of [.d (.slc (.arr 16 (.int .u8))), .d (.int .i64)] true 0 fun x => (LogScans_P x.1 x.2.1, [.d .bool (LogScans_r x.1 x.2.1)])
def LogScans_orcs : List (FuncId × Orc) := [(10, law49_awake_orc), (20, lScan_orc), (21, qScan_orc), (22, qSameB_orc)]
def LogScans_book0 : Book := { Γ := gam, orc := orcsOf LogScans_orcs, hint := hintsOf [] }
def LogScans_lo (F : Nat) : List (LoE Unit) := []
def LogScans_book (F : Nat) : BookL Unit := { toBook := LogScans_book0, lo := losOf (LogScans_lo F), need := needsOf [] }
theorem LogScans_loOk (F : Nat) : LoOk Go.Proofs.Try.prog (LogScans_book F) F := loOk_of (l := LogScans_lo F) rfl (fun _ h => nomatch h)
set_option maxRecDepth 100000 in
theorem LogScans_run (F : Nat) (l : List (List UInt8)) (first : Int) (kend : List BV → Option Unit) : runFnL Go.Proofs.Try.prog (LogScans_book F) F 20 5 [.d (.slc (.arr 16 (.int .u8))) l, .d (.int .i64) first] [.d .bool] kend = LogScans F l first none (fun y0 => kend [BV.d .bool y0]) := by kernel_rfl
theorem LogScans_contract : Contract Go.Proofs.Try.prog 5 LogScans_orc := contract_of_runL (B0 := LogScans_book0) (noNumB_ok num_ok) (rangesB_ok rng_ok) mix_ok (gamB_ok gam_ok) (orcsOf_ok (List.forall_mem_cons.2 ⟨law49_awake_contract, (List.forall_mem_cons.2 ⟨lScan_contract, (List.forall_mem_cons.2 ⟨qScan_contract, (List.forall_mem_cons.2 ⟨qSameB_contract, (fun _ h => nomatch h)⟩)⟩)⟩)⟩)) (by kernel_rfl) (fun x h => by
  obtain ⟨F, hF⟩ := LogScans_plain x.1 x.2.1 h
  exact ⟨F, 20, LogScans_book F, rfl, LogScans_loOk F, fun kend => (LogScans_run F x.1 x.2.1 kend).trans (hF none (fun y0 => kend [BV.d .bool y0]))⟩)

def LogOpens_orc : Orc := Orc.of [.d (.pair (.slc (.arr 16 (.int .u8))) (.pair (.slc (.pair (.int .i64) (.pair (.arr 16 (.int .u8)) .unit))) .unit))] true 0 fun x => (LogOpens_P x.1, [.d .bool (LogOpens_r x.1)])
def LogOpens_orcs : List (FuncId × Orc) := [(10, law49_awake_orc), (22, qSameB_orc), (23, rFew_orc), (24, lOpen_orc), (25, qOpen_orc)]
def LogOpens_book0 : Book := { Γ := gam, orc := orcsOf LogOpens_orcs, hint := hintsOf [] }
def LogOpens_lo (F : Nat) : List (LoE Unit) := []
def LogOpens_book (F : Nat) : BookL Unit := { toBook := LogOpens_book0, lo := losOf (LogOpens_lo F), need := needsOf [] }
theorem LogOpens_loOk (F : Nat) : LoOk Go.Proofs.Try.prog (LogOpens_book F) F := loOk_of (l := LogOpens_lo F) rfl (fun _ h => nomatch h)
set_option maxRecDepth 100000 in
theorem LogOpens_run (F : Nat) (d_ : ((List (List UInt8)) × ((List (Int × ((List UInt8) × Unit))) × Unit))) (kend : List BV → Option Unit) : runFnL Go.Proofs.Try.prog (LogOpens_book F) F 20 6 [.d (.pair (.slc (.arr 16 (.int .u8))) (.pair (.slc (.pair (.int .i64) (.pair (.arr 16 (.int .u8)) .unit))) .unit)) d_] [.d .bool] kend = LogOpens F d_ none (fun y0 => kend [BV.d .bool y0]) := by kernel_rfl
theorem LogOpens_contract : Contract Go.Proofs.Try.prog 6 LogOpens_orc := contract_of_runL (B0 := LogOpens_book0) (noNumB_ok num_ok) (rangesB_ok rng_ok) mix_ok (gamB_ok gam_ok) (orcsOf_ok (List.forall_mem_cons.2 ⟨law49_awake_contract, (List.forall_mem_cons.2 ⟨qSameB_contract, (List.forall_mem_cons.2 ⟨rFew_contract, (List.forall_mem_cons.2 ⟨lOpen_contract, (List.forall_mem_cons.2 ⟨qOpen_contract, (fun _ h => nomatch h)⟩)⟩)⟩)⟩)⟩)) (by kernel_rfl) (fun x h => by
  obtain ⟨F, hF⟩ := LogOpens_plain x.1 h
  exact ⟨F, 20, LogOpens_book F, rfl, LogOpens_loOk F, fun kend => (LogOpens_run F x.1 kend).trans (hF none (fun y0 => kend [BV.d .bool y0]))⟩)

end Go.AI
