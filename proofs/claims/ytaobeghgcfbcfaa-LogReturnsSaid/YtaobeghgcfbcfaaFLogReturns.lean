/- For every input that the row admits, the law 'LogReturns' returns true and what the input reads as stays. -/
import Derived.Test.YtaobeghgcfbcfaaRows
import Derived.WalkKit
import Derived.ProofKit
import Derived.OpenShut
import Derived.Test.YtaobeghgcfbcfaaLogL2
import Derived.Test.YtaobeghgcfbcfaaLogW2
namespace Go.Proofs.Ytaobeghgcfbcfaa.LogReturns
open Go Go.AI Go.RowKit Go.WideShapes Go.ChangeShapes

theorem own : ownKnob Try.prog.godebug = none := by kernel_rfl
theorem answers : ∀ x : LawT [.slc (.arr 16 (.int .u8)), .slc (.slc (.int .u8))], WfArgs [.slc (.arr 16 (.int .u8)), .slc (.slc (.int .u8))] x → (fun x : LawT [.slc (.arr 16 (.int .u8)), .slc (.slc (.int .u8))] => (LogReturns_P x.1 x.2.1, [.d .bool (LogReturns_r x.1 x.2.1)])) x = (true, [BV.d .bool true]) := fun x h => by
  have e := Go.AI.LogReturns_wf x h
  simp only [e]
  rfl

set_option maxRecDepth 100000 in
theorem lifted (os : Os) (started : os.Started) (H : Type) (enc : TypeId × Value → H) :
    ReturnsInHanded {} Try.checked os 7 .any (Rows.logReturnsSpec.pre6 enc Try.prog Try.f7 Rows.logReturnsRow.domain false) (Rows.logReturnsSpec.post enc Try.prog Try.f7 false true false false) := by
  refine returnsInHanded_of_change (C := Try.checked) own started (by kernel_rfl) Try.func7
    (ChangeSpec.witness6 (enc := enc) (C := Try.checked) false ⟨#[], #[.slice none 0 0, .slice none 0 0], []⟩ 8 (by kernel_rfl) (by kernel_rfl) (by kernel_rfl) (by kernel_rfl)) ?_
  intro W base args ds gs before hval hW _ _
  exact law_post (ss := [.slc (.arr 16 (.int .u8)), .slc (.slc (.int .u8))]) (g := fun x => (LogReturns_P x.1 x.2.1, [.d .bool (LogReturns_r x.1 x.2.1)])) Go.AI.LogReturns_contract (by kernel_rfl) (by kernel_rfl) (by kernel_rfl) rfl (by kernel_rfl) rfl (fun ds h => by
    have h : ds.length = 2 := h
    match ds, h with
    | [d0, d1], _ => rfl) answers hval hW

theorem over : Rows.logReturnsRow.holds Try.pinned (OpenSpec.ofChange Rows.logReturnsSpec) :=
  OpenClaim.holds_of_wide 7 Try.f7 rfl rfl rfl rfl rfl rfl rfl ⟨rfl, rfl, rfl, rfl, rfl⟩ rfl rfl rfl rfl rfl (by kernel_rfl) Try.func7 (by kernel_rfl)
    (of_decide_eq_true (by kernel_rfl)) (by unfold Func.isWrapper; first | (rw [if_pos (by decide +kernel)]; kernel_rfl) | (rw [if_neg (by decide +kernel)]; exact ⟨rfl, rfl⟩))
    (fun os started H enc _ => lifted os started H enc)

theorem proved : Rows.LogReturnsSaid := over
#print axioms proved
end Go.Proofs.Ytaobeghgcfbcfaa.LogReturns
