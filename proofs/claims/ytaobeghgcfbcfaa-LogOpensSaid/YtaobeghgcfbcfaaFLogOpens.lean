/- For every input that the row admits, the law 'LogOpens' returns true and what the input reads as stays. -/
import Derived.Test.YtaobeghgcfbcfaaRows
import Derived.WalkKit
import Derived.ProofKit
import Derived.OpenShut
import Derived.Test.YtaobeghgcfbcfaaLogL
import Derived.Test.YtaobeghgcfbcfaaLogW
namespace Go.Proofs.Ytaobeghgcfbcfaa.LogOpens
open Go Go.AI Go.RowKit Go.WideShapes Go.ChangeShapes

theorem own : ownKnob Try.prog.godebug = none := by kernel_rfl
theorem answers : ∀ x : LawT [.pair (.slc (.arr 16 (.int .u8))) (.pair (.slc (.pair (.int .i64) (.pair (.arr 16 (.int .u8)) .unit))) .unit)], WfArgs [.pair (.slc (.arr 16 (.int .u8))) (.pair (.slc (.pair (.int .i64) (.pair (.arr 16 (.int .u8)) .unit))) .unit)] x → (fun x : LawT [.pair (.slc (.arr 16 (.int .u8))) (.pair (.slc (.pair (.int .i64) (.pair (.arr 16 (.int .u8)) .unit))) .unit)] => (LogOpens_P x.1, [.d .bool (LogOpens_r x.1)])) x = (true, [BV.d .bool true]) := fun x h => by
  have e := Go.AI.LogOpens_wf x h
  simp only [e]
  rfl

set_option maxRecDepth 100000 in
theorem lifted (os : Os) (started : os.Started) (H : Type) (enc : TypeId × Value → H) :
    ReturnsInHanded {} Try.checked os 6 .any (Rows.logOpensSpec.pre6 enc Try.prog Try.f6 Rows.logOpensRow.domain false) (Rows.logOpensSpec.post enc Try.prog Try.f6 false true false false) := by
  refine returnsInHanded_of_change (C := Try.checked) own started (by kernel_rfl) Try.func6
    (ChangeSpec.witness6 (enc := enc) (C := Try.checked) false ⟨#[], #[.agg #[.slice none 0 0, .slice none 0 0]], []⟩ 8 (by kernel_rfl) (by kernel_rfl) (by kernel_rfl) (by kernel_rfl)) ?_
  intro W base args ds gs before hval hW _ _
  exact law_post (ss := [.pair (.slc (.arr 16 (.int .u8))) (.pair (.slc (.pair (.int .i64) (.pair (.arr 16 (.int .u8)) .unit))) .unit)]) (g := fun x => (LogOpens_P x.1, [.d .bool (LogOpens_r x.1)])) Go.AI.LogOpens_contract (by kernel_rfl) (by kernel_rfl) (by kernel_rfl) rfl (by kernel_rfl) rfl (fun ds h => by
    have h : ds.length = 1 := h
    match ds, h with
    | [d0], _ => rfl) answers hval hW

theorem over : Rows.logOpensRow.holds Try.pinned (OpenSpec.ofChange Rows.logOpensSpec) :=
  OpenClaim.holds_of_wide 6 Try.f6 rfl rfl rfl rfl rfl rfl rfl ⟨rfl, rfl, rfl, rfl, rfl⟩ rfl rfl rfl rfl rfl (by kernel_rfl) Try.func6 (by kernel_rfl)
    (of_decide_eq_true (by kernel_rfl)) (by unfold Func.isWrapper; first | (rw [if_pos (by decide +kernel)]; kernel_rfl) | (rw [if_neg (by decide +kernel)]; exact ⟨rfl, rfl⟩))
    (fun os started H enc _ => lifted os started H enc)

theorem proved : Rows.LogOpensSaid := over
#print axioms proved
end Go.Proofs.Ytaobeghgcfbcfaa.LogOpens
