/- For every input that the row admits, the law 'LogDetects' returns true and what the input reads as stays. -/
import Derived.Test.YtaobeghgcfbcfaaRows
import Derived.WalkKit
import Derived.ProofKit
import Derived.OpenShut
import Derived.Test.YtaobeghgcfbcfaaLogL3
import Derived.Test.YtaobeghgcfbcfaaLogW3
namespace Go.Proofs.Ytaobeghgcfbcfaa.LogDetects
open Go Go.AI Go.RowKit Go.WideShapes Go.ChangeShapes

theorem own : ownKnob Try.prog.godebug = none := by kernel_rfl
theorem answers : ∀ x : LawT [.slc (.slc (.int .u8)), .pair (.int .u8) (.pair (.int .u8) (.pair (.int .u8) .unit))], WfArgs [.slc (.slc (.int .u8)), .pair (.int .u8) (.pair (.int .u8) (.pair (.int .u8) .unit))] x → (fun x : LawT [.slc (.slc (.int .u8)), .pair (.int .u8) (.pair (.int .u8) (.pair (.int .u8) .unit))] => (LogDetects_P x.1 x.2.1, [.d .bool (LogDetects_r x.1 x.2.1)])) x = (true, [BV.d .bool true]) := fun x h => by
  have e := Go.AI.LogDetects_wf x h
  simp only [e]
  rfl

set_option maxRecDepth 100000 in
theorem lifted (os : Os) (started : os.Started) (H : Type) (enc : TypeId × Value → H) :
    ReturnsInHanded {} Try.checked os 9 .any (Rows.logDetectsSpec.pre6 enc Try.prog Try.f9 Rows.logDetectsRow.domain false) (Rows.logDetectsSpec.post enc Try.prog Try.f9 false true false false) := by
  refine returnsInHanded_of_change (C := Try.checked) own started (by kernel_rfl) Try.func9
    (ChangeSpec.witness6 (enc := enc) (C := Try.checked) false ⟨#[], #[.slice none 0 0, .agg #[.int .u8 0, .int .u8 0, .int .u8 0]], []⟩ 8 (by kernel_rfl) (by kernel_rfl) (by kernel_rfl) (by kernel_rfl)) ?_
  intro W base args ds gs before hval hW _ _
  exact law_post (ss := [.slc (.slc (.int .u8)), .pair (.int .u8) (.pair (.int .u8) (.pair (.int .u8) .unit))]) (g := fun x => (LogDetects_P x.1 x.2.1, [.d .bool (LogDetects_r x.1 x.2.1)])) Go.AI.LogDetects_contract (by kernel_rfl) (by kernel_rfl) (by kernel_rfl) rfl (by kernel_rfl) rfl (fun ds h => by
    have h : ds.length = 2 := h
    match ds, h with
    | [d0, d1], _ => rfl) answers hval hW

theorem over : Rows.logDetectsRow.holds Try.pinned (OpenSpec.ofChange Rows.logDetectsSpec) :=
  OpenClaim.holds_of_wide 9 Try.f9 rfl rfl rfl rfl rfl rfl rfl ⟨rfl, rfl, rfl, rfl, rfl⟩ rfl rfl rfl rfl rfl (by kernel_rfl) Try.func9 (by kernel_rfl)
    (of_decide_eq_true (by kernel_rfl)) (by unfold Func.isWrapper; first | (rw [if_pos (by decide +kernel)]; kernel_rfl) | (rw [if_neg (by decide +kernel)]; exact ⟨rfl, rfl⟩))
    (fun os started H enc _ => lifted os started H enc)

theorem proved : Rows.LogDetectsSaid := over
#print axioms proved
end Go.Proofs.Ytaobeghgcfbcfaa.LogDetects
