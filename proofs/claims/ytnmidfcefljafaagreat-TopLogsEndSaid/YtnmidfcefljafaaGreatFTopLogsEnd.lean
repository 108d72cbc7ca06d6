/- For every input that the row admits, the law 'TopLogsEnd' returns true and what the input reads as stays. -/
import Derived.Test.YtnmidfcefljafaaGreatRows
import Derived.WalkKit
import Derived.ProofKit
import Derived.OpenShut
import Derived.Test.YtnmidfcefljafaaGreatQeM
namespace Go.Proofs.YtnmidfcefljafaaGreat.TopLogsEnd
open Go Go.AI Go.RowKit Go.WideShapes Go.ChangeShapes

theorem own : ownKnob Tryz.prog.godebug = none := by kernel_rfl
theorem answers : ∀ x : LawT [.slc (.slc (.int .u8)), .slc (.arr 16 (.int .u8))], WfArgs [.slc (.slc (.int .u8)), .slc (.arr 16 (.int .u8))] x → (fun x : LawT [.slc (.slc (.int .u8)), .slc (.arr 16 (.int .u8))] => (TopLogsEnd_P x.1 x.2.1, [.d .bool (TopLogsEnd_r x.1 x.2.1)])) x = (true, [BV.d .bool true]) := fun x h => by
  have e := Go.AI.TopLogsEnd_wf x h
  simp only [e]
  rfl

set_option maxRecDepth 100000 in
theorem lifted (os : Os) (started : os.Started) (H : Type) (enc : TypeId × Value → H) :
    ReturnsInHanded {} Tryz.checked os 3 .any (Rows.topLogsEndSpec.pre6 enc Tryz.prog Tryz.f3 Rows.topLogsEndRow.domain false) (Rows.topLogsEndSpec.post enc Tryz.prog Tryz.f3 false true false false) := by
  refine returnsInHanded_of_change (C := Tryz.checked) own started (by kernel_rfl) Tryz.func3
    (ChangeSpec.witness6 (enc := enc) (C := Tryz.checked) false ⟨#[], #[.slice none 0 0, .slice none 0 0], []⟩ 8 (by kernel_rfl) (by kernel_rfl) (by kernel_rfl) (by kernel_rfl)) ?_
  intro W base args ds gs before hval hW _ _
  exact law_post (ss := [.slc (.slc (.int .u8)), .slc (.arr 16 (.int .u8))]) (g := fun x => (TopLogsEnd_P x.1 x.2.1, [.d .bool (TopLogsEnd_r x.1 x.2.1)])) Go.AI.TopLogsEnd_contract (by kernel_rfl) (by kernel_rfl) (by kernel_rfl) rfl (by kernel_rfl) rfl (fun ds h => by
    have h : ds.length = 2 := h
    match ds, h with
    | [d0, d1], _ => rfl) answers hval hW

theorem over : Rows.topLogsEndRow.holds Tryz.pinned (OpenSpec.ofChange Rows.topLogsEndSpec) :=
  OpenClaim.holds_of_wide 3 Tryz.f3 rfl rfl rfl rfl rfl rfl rfl ⟨rfl, rfl, rfl, rfl, rfl⟩ rfl rfl rfl rfl rfl (by kernel_rfl) Tryz.func3 (by kernel_rfl)
    (of_decide_eq_true (by kernel_rfl)) (by unfold Func.isWrapper; first | (rw [if_pos (by decide +kernel)]; kernel_rfl) | (rw [if_neg (by decide +kernel)]; exact ⟨rfl, rfl⟩))
    (fun os started H enc _ => lifted os started H enc)

theorem proved : Rows.TopLogsEndSaid := over
#print axioms proved
end Go.Proofs.YtnmidfcefljafaaGreat.TopLogsEnd
