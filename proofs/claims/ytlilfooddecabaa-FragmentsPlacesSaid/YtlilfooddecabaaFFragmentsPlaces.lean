/- For every input that the row admits, the law 'FragmentsPlaces' returns true and what the input reads as stays. -/
import Derived.Test.YtlilfooddecabaaRows
import Derived.WalkKit
import Derived.ProofKit
import Derived.OpenShut
import Derived.Test.YtlilfooddecabaaFragL
import Derived.Test.YtlilfooddecabaaFragW
namespace Go.Proofs.Ytlilfooddecabaa.FragmentsPlaces
open Go Go.AI Go.RowKit Go.WideShapes Go.ChangeShapes

theorem own : ownKnob Try.prog.godebug = none := by kernel_rfl
theorem answers : ∀ x : LawT [.pair (.slc (.pair (.arr 32 (.int .u8)) (.pair (.int .i64) (.pair (.int .i64) (.pair (.int .i64) .unit))))) .unit, .int .i64, .arr 2 (.int .i64)], WfArgs [.pair (.slc (.pair (.arr 32 (.int .u8)) (.pair (.int .i64) (.pair (.int .i64) (.pair (.int .i64) .unit))))) .unit, .int .i64, .arr 2 (.int .i64)] x → (fun x : LawT [.pair (.slc (.pair (.arr 32 (.int .u8)) (.pair (.int .i64) (.pair (.int .i64) (.pair (.int .i64) .unit))))) .unit, .int .i64, .arr 2 (.int .i64)] => (FragmentsPlaces_P x.1 x.2.1 x.2.2.1, [.d .bool (FragmentsPlaces_r x.1 x.2.1 x.2.2.1)])) x = (true, [BV.d .bool true]) := fun x h => by
  have e := Go.AI.FragmentsPlaces_wf x h
  simp only [e]
  rfl

set_option maxRecDepth 100000 in
theorem lifted (os : Os) (started : os.Started) (H : Type) (enc : TypeId × Value → H) :
    ReturnsInHanded {} Try.checked os 4 .any (Rows.fragmentsPlacesSpec.pre6 enc Try.prog Try.f4 Rows.fragmentsPlacesRow.domain false) (Rows.fragmentsPlacesSpec.post enc Try.prog Try.f4 false true false false) := by
  refine returnsInHanded_of_change (C := Try.checked) own started (by kernel_rfl) Try.func4
    (ChangeSpec.witness6 (enc := enc) (C := Try.checked) false ⟨#[], #[.agg #[.slice none 0 0], .int .i64 0, .agg #[.int .i64 0, .int .i64 0]], []⟩ 8 (by kernel_rfl) (by kernel_rfl) (by kernel_rfl) (by kernel_rfl)) ?_
  intro W base args ds gs before hval hW _ _
  exact law_post (ss := [.pair (.slc (.pair (.arr 32 (.int .u8)) (.pair (.int .i64) (.pair (.int .i64) (.pair (.int .i64) .unit))))) .unit, .int .i64, .arr 2 (.int .i64)]) (g := fun x => (FragmentsPlaces_P x.1 x.2.1 x.2.2.1, [.d .bool (FragmentsPlaces_r x.1 x.2.1 x.2.2.1)])) Go.AI.FragmentsPlaces_contract (by kernel_rfl) (by kernel_rfl) (by kernel_rfl) rfl (by kernel_rfl) rfl (fun ds h => by
    have h : ds.length = 3 := h
    match ds, h with
    | [d0, d1, d2], _ => rfl) answers hval hW

theorem over : Rows.fragmentsPlacesRow.holds Try.pinned (OpenSpec.ofChange Rows.fragmentsPlacesSpec) :=
  OpenClaim.holds_of_wide 4 Try.f4 rfl rfl rfl rfl rfl rfl rfl ⟨rfl, rfl, rfl, rfl, rfl⟩ rfl rfl rfl rfl rfl (by kernel_rfl) Try.func4 (by kernel_rfl)
    (of_decide_eq_true (by kernel_rfl)) (by unfold Func.isWrapper; first | (rw [if_pos (by decide +kernel)]; kernel_rfl) | (rw [if_neg (by decide +kernel)]; exact ⟨rfl, rfl⟩))
    (fun os started H enc _ => lifted os started H enc)

theorem proved : Rows.FragmentsPlacesSaid := over
#print axioms proved
end Go.Proofs.Ytlilfooddecabaa.FragmentsPlaces
