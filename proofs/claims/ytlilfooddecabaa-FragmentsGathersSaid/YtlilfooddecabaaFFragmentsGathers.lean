/- For every input that the row admits, the law 'FragmentsGathers' returns true and what the input reads as stays. -/
import Derived.Test.YtlilfooddecabaaRows
import Derived.WalkKit
import Derived.ProofKit
import Derived.OpenShut
import Derived.Test.YtlilfooddecabaaFragL2
import Derived.Test.YtlilfooddecabaaFragW2
namespace Go.Proofs.Ytlilfooddecabaa.FragmentsGathers
open Go Go.AI Go.RowKit Go.WideShapes Go.ChangeShapes

theorem own : ownKnob Try.prog.godebug = none := by kernel_rfl
theorem answers : ∀ x : LawT [.slc (.int .u8), .int .u8], WfArgs [.slc (.int .u8), .int .u8] x → (fun x : LawT [.slc (.int .u8), .int .u8] => (FragmentsGathers_P x.1 x.2.1, [.d .bool (FragmentsGathers_r x.1 x.2.1)])) x = (true, [BV.d .bool true]) := fun x h => by
  have e := Go.AI.FragmentsGathers_wf x h
  simp only [e]
  rfl

set_option maxRecDepth 100000 in
theorem lifted (os : Os) (started : os.Started) (H : Type) (enc : TypeId × Value → H) :
    ReturnsInHanded {} Try.checked os 7 .any (Rows.fragmentsGathersSpec.pre6 enc Try.prog Try.f7 Rows.fragmentsGathersRow.domain false) (Rows.fragmentsGathersSpec.post enc Try.prog Try.f7 false true false false) := by
  refine returnsInHanded_of_change (C := Try.checked) own started (by kernel_rfl) Try.func7
    (ChangeSpec.witness6 (enc := enc) (C := Try.checked) false ⟨#[], #[.slice none 0 0, .int .u8 0], []⟩ 8 (by kernel_rfl) (by kernel_rfl) (by kernel_rfl) (by kernel_rfl)) ?_
  intro W base args ds gs before hval hW _ _
  exact law_post (ss := [.slc (.int .u8), .int .u8]) (g := fun x => (FragmentsGathers_P x.1 x.2.1, [.d .bool (FragmentsGathers_r x.1 x.2.1)])) Go.AI.FragmentsGathers_contract (by kernel_rfl) (by kernel_rfl) (by kernel_rfl) rfl (by kernel_rfl) rfl (fun ds h => by
    have h : ds.length = 2 := h
    match ds, h with
    | [d0, d1], _ => rfl) answers hval hW

theorem over : Rows.fragmentsGathersRow.holds Try.pinned (OpenSpec.ofChange Rows.fragmentsGathersSpec) :=
  OpenClaim.holds_of_wide 7 Try.f7 rfl rfl rfl rfl rfl rfl rfl ⟨rfl, rfl, rfl, rfl, rfl⟩ rfl rfl rfl rfl rfl (by kernel_rfl) Try.func7 (by kernel_rfl)
    (of_decide_eq_true (by kernel_rfl)) (by unfold Func.isWrapper; first | (rw [if_pos (by decide +kernel)]; kernel_rfl) | (rw [if_neg (by decide +kernel)]; exact ⟨rfl, rfl⟩))
    (fun os started H enc _ => lifted os started H enc)

theorem proved : Rows.FragmentsGathersSaid := over
#print axioms proved
end Go.Proofs.Ytlilfooddecabaa.FragmentsGathers
