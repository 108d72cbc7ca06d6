/- For every input that the row admits, the law 'TopVolumesAlgebra' returns true and what the input reads as stays. -/
import Derived.Test.YtaoimnfmhdmkmaaRows
import Derived.WalkKit
import Derived.ProofKit
import Derived.OpenShut
import Derived.Test.YtaoimnfmhdmkmaaVolL
import Derived.Test.YtaoimnfmhdmkmaaVolW
namespace Go.Proofs.Ytaoimnfmhdmkmaa.TopVolumesAlgebra
open Go Go.AI Go.RowKit Go.WideShapes Go.ChangeShapes

theorem own : ownKnob Try.prog.godebug = none := by kernel_rfl
theorem answers : ∀ x : LawT [.slc (.slc (.int .u8)), .slc (.slc (.int .u8)), .arr 2 (.int .u8)], WfArgs [.slc (.slc (.int .u8)), .slc (.slc (.int .u8)), .arr 2 (.int .u8)] x → (fun x : LawT [.slc (.slc (.int .u8)), .slc (.slc (.int .u8)), .arr 2 (.int .u8)] => (TopVolumesAlgebra_P x.1 x.2.1 x.2.2.1, [.d .bool (TopVolumesAlgebra_r x.1 x.2.1 x.2.2.1)])) x = (true, [BV.d .bool true]) := fun x h => by
  have e := Go.AI.TopVolumesAlgebra_wf x h
  simp only [e]
  rfl

set_option maxRecDepth 100000 in
theorem lifted (os : Os) (started : os.Started) (H : Type) (enc : TypeId × Value → H) :
    ReturnsInHanded {} Try.checked os 3 .any (Rows.topVolumesAlgebraSpec.pre6 enc Try.prog Try.f3 Rows.topVolumesAlgebraRow.domain false) (Rows.topVolumesAlgebraSpec.post enc Try.prog Try.f3 false true false false) := by
  refine returnsInHanded_of_change (C := Try.checked) own started (by kernel_rfl) Try.func3
    (ChangeSpec.witness6 (enc := enc) (C := Try.checked) false ⟨#[], #[.slice none 0 0, .slice none 0 0, .agg #[.int .u8 0, .int .u8 0]], []⟩ 8 (by kernel_rfl) (by kernel_rfl) (by kernel_rfl) (by kernel_rfl)) ?_
  intro W base args ds gs before hval hW _ _
  exact law_post (ss := [.slc (.slc (.int .u8)), .slc (.slc (.int .u8)), .arr 2 (.int .u8)]) (g := fun x => (TopVolumesAlgebra_P x.1 x.2.1 x.2.2.1, [.d .bool (TopVolumesAlgebra_r x.1 x.2.1 x.2.2.1)])) Go.AI.TopVolumesAlgebra_contract (by kernel_rfl) (by kernel_rfl) (by kernel_rfl) rfl (by kernel_rfl) rfl (fun ds h => by
    have h : ds.length = 3 := h
    match ds, h with
    | [d0, d1, d2], _ => rfl) answers hval hW

theorem over : Rows.topVolumesAlgebraRow.holds Try.pinned (OpenSpec.ofChange Rows.topVolumesAlgebraSpec) :=
  OpenClaim.holds_of_wide 3 Try.f3 rfl rfl rfl rfl rfl rfl rfl ⟨rfl, rfl, rfl, rfl, rfl⟩ rfl rfl rfl rfl rfl (by kernel_rfl) Try.func3 (by kernel_rfl)
    (of_decide_eq_true (by kernel_rfl)) (by unfold Func.isWrapper; first | (rw [if_pos (by decide +kernel)]; kernel_rfl) | (rw [if_neg (by decide +kernel)]; exact ⟨rfl, rfl⟩))
    (fun os started H enc _ => lifted os started H enc)

theorem proved : Rows.TopVolumesAlgebraSaid := over
#print axioms proved
end Go.Proofs.Ytaoimnfmhdmkmaa.TopVolumesAlgebra
