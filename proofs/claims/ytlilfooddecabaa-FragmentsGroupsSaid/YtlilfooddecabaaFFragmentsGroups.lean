/- For every input that the row admits, the law 'FragmentsGroups' returns true and what the input reads as stays. -/
import Derived.Test.YtlilfooddecabaaRows
import Derived.WalkKit
import Derived.ProofKit
import Derived.OpenShut
import Derived.Test.YtlilfooddecabaaFragL5
import Derived.Test.YtlilfooddecabaaFragW5
namespace Go.Proofs.Ytlilfooddecabaa.FragmentsGroups
open Go Go.AI Go.RowKit Go.WideShapes Go.ChangeShapes

theorem own : ownKnob Try.prog.godebug = none := by kernel_rfl
theorem answers : ∀ x : LawT [.slc (.int .i64), .int .i64], WfArgs [.slc (.int .i64), .int .i64] x → (fun x : LawT [.slc (.int .i64), .int .i64] => (FragmentsGroups_P x.1 x.2.1, [.d .bool (FragmentsGroups_r x.1 x.2.1)])) x = (true, [BV.d .bool true]) := fun x h => by
  have e := Go.AI.FragmentsGroups_wf x h
  simp only [e]
  rfl

set_option maxRecDepth 100000 in
theorem lifted (os : Os) (started : os.Started) (H : Type) (enc : TypeId × Value → H) :
    ReturnsInHanded {} Try.checked os 5 .any (Rows.fragmentsGroupsSpec.pre6 enc Try.prog Try.f5 Rows.fragmentsGroupsRow.domain false) (Rows.fragmentsGroupsSpec.post enc Try.prog Try.f5 false true false false) := by
  refine returnsInHanded_of_change (C := Try.checked) own started (by kernel_rfl) Try.func5
    (ChangeSpec.witness6 (enc := enc) (C := Try.checked) false ⟨#[], #[.slice none 0 0, .int .i64 0], []⟩ 8 (by kernel_rfl) (by kernel_rfl) (by kernel_rfl) (by kernel_rfl)) ?_
  intro W base args ds gs before hval hW _ _
  exact law_post (ss := [.slc (.int .i64), .int .i64]) (g := fun x => (FragmentsGroups_P x.1 x.2.1, [.d .bool (FragmentsGroups_r x.1 x.2.1)])) Go.AI.FragmentsGroups_contract (by kernel_rfl) (by kernel_rfl) (by kernel_rfl) rfl (by kernel_rfl) rfl (fun ds h => by
    have h : ds.length = 2 := h
    match ds, h with
    | [d0, d1], _ => rfl) answers hval hW

theorem over : Rows.fragmentsGroupsRow.holds Try.pinned (OpenSpec.ofChange Rows.fragmentsGroupsSpec) :=
  OpenClaim.holds_of_wide 5 Try.f5 rfl rfl rfl rfl rfl rfl rfl ⟨rfl, rfl, rfl, rfl, rfl⟩ rfl rfl rfl rfl rfl (by kernel_rfl) Try.func5 (by kernel_rfl)
    (of_decide_eq_true (by kernel_rfl)) (by unfold Func.isWrapper; first | (rw [if_pos (by decide +kernel)]; kernel_rfl) | (rw [if_neg (by decide +kernel)]; exact ⟨rfl, rfl⟩))
    (fun os started H enc _ => lifted os started H enc)

theorem proved : Rows.FragmentsGroupsSaid := over
#print axioms proved
end Go.Proofs.Ytlilfooddecabaa.FragmentsGroups
