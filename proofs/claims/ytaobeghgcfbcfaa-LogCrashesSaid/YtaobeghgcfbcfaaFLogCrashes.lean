/- For every input that the row admits, the law 'LogCrashes' returns true and what the input reads as stays. -/
import Derived.Test.YtaobeghgcfbcfaaRows
import Derived.WalkKit
import Derived.ProofKit
import Derived.OpenShut
import Derived.Test.YtaobeghgcfbcfaaLogL4
import Derived.Test.YtaobeghgcfbcfaaLogW4
namespace Go.Proofs.Ytaobeghgcfbcfaa.LogCrashes
open Go Go.AI Go.RowKit Go.WideShapes Go.ChangeShapes

theorem own : ownKnob Try.prog.godebug = none := by kernel_rfl
theorem answers : ∀ x : LawT [.slc (.slc (.int .u8)), .slc (.int .u8), .slc (.int .i64)], WfArgs [.slc (.slc (.int .u8)), .slc (.int .u8), .slc (.int .i64)] x → (fun x : LawT [.slc (.slc (.int .u8)), .slc (.int .u8), .slc (.int .i64)] => (LogCrashes_P x.1 x.2.1 x.2.2.1, [.d .bool (LogCrashes_r x.1 x.2.1 x.2.2.1)])) x = (true, [BV.d .bool true]) := fun x h => by
  have e := Go.AI.LogCrashes_wf x h
  simp only [e]
  rfl

set_option maxRecDepth 100000 in
theorem lifted (os : Os) (started : os.Started) (H : Type) (enc : TypeId × Value → H) :
    ReturnsInHanded {} Try.checked os 8 .any (Rows.logCrashesSpec.pre6 enc Try.prog Try.f8 Rows.logCrashesRow.domain false) (Rows.logCrashesSpec.post enc Try.prog Try.f8 false true false false) := by
  refine returnsInHanded_of_change (C := Try.checked) own started (by kernel_rfl) Try.func8
    (ChangeSpec.witness6 (enc := enc) (C := Try.checked) false ⟨#[], #[.slice none 0 0, .slice none 0 0, .slice none 0 0], []⟩ 8 (by kernel_rfl) (by kernel_rfl) (by kernel_rfl) (by kernel_rfl)) ?_
  intro W base args ds gs before hval hW _ _
  exact law_post (ss := [.slc (.slc (.int .u8)), .slc (.int .u8), .slc (.int .i64)]) (g := fun x => (LogCrashes_P x.1 x.2.1 x.2.2.1, [.d .bool (LogCrashes_r x.1 x.2.1 x.2.2.1)])) Go.AI.LogCrashes_contract (by kernel_rfl) (by kernel_rfl) (by kernel_rfl) rfl (by kernel_rfl) rfl (fun ds h => by
    have h : ds.length = 3 := h
    match ds, h with
    | [d0, d1, d2], _ => rfl) answers hval hW

theorem over : Rows.logCrashesRow.holds Try.pinned (OpenSpec.ofChange Rows.logCrashesSpec) :=
  OpenClaim.holds_of_wide 8 Try.f8 rfl rfl rfl rfl rfl rfl rfl ⟨rfl, rfl, rfl, rfl, rfl⟩ rfl rfl rfl rfl rfl (by kernel_rfl) Try.func8 (by kernel_rfl)
    (of_decide_eq_true (by kernel_rfl)) (by unfold Func.isWrapper; first | (rw [if_pos (by decide +kernel)]; kernel_rfl) | (rw [if_neg (by decide +kernel)]; exact ⟨rfl, rfl⟩))
    (fun os started H enc _ => lifted os started H enc)

theorem proved : Rows.LogCrashesSaid := over
#print axioms proved
end Go.Proofs.Ytaobeghgcfbcfaa.LogCrashes
