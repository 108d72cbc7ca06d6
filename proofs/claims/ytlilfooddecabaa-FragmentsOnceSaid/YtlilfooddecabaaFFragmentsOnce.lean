/- For every input that the row admits, the law 'FragmentsOnce' returns true and what the input reads as stays. -/
import Derived.Test.YtlilfooddecabaaRows
import Derived.WalkKit
import Derived.ProofKit
import Derived.OpenShut
import Derived.Test.YtlilfooddecabaaFragL4
import Derived.Test.YtlilfooddecabaaFragW4
namespace Go.Proofs.Ytlilfooddecabaa.FragmentsOnce
open Go Go.AI Go.RowKit Go.WideShapes Go.ChangeShapes

theorem own : ownKnob Try.prog.godebug = none := by kernel_rfl
theorem answers : ∀ x : LawT [.slc (.slc (.int .u8))], WfArgs [.slc (.slc (.int .u8))] x → (fun x : LawT [.slc (.slc (.int .u8))] => (FragmentsOnce_P x.1, [.d .bool (FragmentsOnce_r x.1)])) x = (true, [BV.d .bool true]) := fun x h => by
  have e := Go.AI.FragmentsOnce_wf x h
  simp only [e]
  rfl

set_option maxRecDepth 100000 in
theorem lifted (os : Os) (started : os.Started) (H : Type) (enc : TypeId × Value → H) :
    ReturnsInHanded {} Try.checked os 10 .any (Rows.fragmentsOnceSpec.pre6 enc Try.prog Try.f10 Rows.fragmentsOnceRow.domain false) (Rows.fragmentsOnceSpec.post enc Try.prog Try.f10 false true false false) := by
  refine returnsInHanded_of_change (C := Try.checked) own started (by kernel_rfl) Try.func10
    (ChangeSpec.witness6 (enc := enc) (C := Try.checked) false ⟨#[], #[.slice none 0 0], []⟩ 8 (by kernel_rfl) (by kernel_rfl) (by kernel_rfl) (by kernel_rfl)) ?_
  intro W base args ds gs before hval hW _ _
  exact law_post (ss := [.slc (.slc (.int .u8))]) (g := fun x => (FragmentsOnce_P x.1, [.d .bool (FragmentsOnce_r x.1)])) Go.AI.FragmentsOnce_contract (by kernel_rfl) (by kernel_rfl) (by kernel_rfl) rfl (by kernel_rfl) rfl (fun ds h => by
    have h : ds.length = 1 := h
    match ds, h with
    | [d0], _ => rfl) answers hval hW

theorem over : Rows.fragmentsOnceRow.holds Try.pinned (OpenSpec.ofChange Rows.fragmentsOnceSpec) :=
  OpenClaim.holds_of_wide 10 Try.f10 rfl rfl rfl rfl rfl rfl rfl ⟨rfl, rfl, rfl, rfl, rfl⟩ rfl rfl rfl rfl rfl (by kernel_rfl) Try.func10 (by kernel_rfl)
    (of_decide_eq_true (by kernel_rfl)) (by unfold Func.isWrapper; first | (rw [if_pos (by decide +kernel)]; kernel_rfl) | (rw [if_neg (by decide +kernel)]; exact ⟨rfl, rfl⟩))
    (fun os started H enc _ => lifted os started H enc)

theorem proved : Rows.FragmentsOnceSaid := over
#print axioms proved
end Go.Proofs.Ytlilfooddecabaa.FragmentsOnce
