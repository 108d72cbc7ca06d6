/- For every input that the row admits, the law 'TopSealedTampered' returns true and what the input reads as stays. -/
import Derived.Test.YtnmidfcefljafaaGreatRows
import Derived.WalkKit
import Derived.ProofKit
import Derived.OpenShut
import Derived.Test.YtnmidfcefljafaaGreatQtM
namespace Go.Proofs.YtnmidfcefljafaaGreat.TopSealedTampered
open Go Go.AI Go.RowKit Go.WideShapes Go.ChangeShapes

theorem own : ownKnob Tryz.prog.godebug = none := by kernel_rfl
theorem answers : ∀ x : LawT [.slc (.int .u8), .slc (.slc (.pair (.int .i64) (.pair (.slc (.int .u8)) .unit))), .arr 3 (.int .u8)], WfArgs [.slc (.int .u8), .slc (.slc (.pair (.int .i64) (.pair (.slc (.int .u8)) .unit))), .arr 3 (.int .u8)] x → (fun x : LawT [.slc (.int .u8), .slc (.slc (.pair (.int .i64) (.pair (.slc (.int .u8)) .unit))), .arr 3 (.int .u8)] => (TopSealedTampered_P x.1 x.2.1 x.2.2.1, [.d .bool (TopSealedTampered_r x.1 x.2.1 x.2.2.1)])) x = (true, [BV.d .bool true]) := fun x h => by
  have e := Go.AI.TopSealedTampered_wf x h
  simp only [e]
  rfl

set_option maxRecDepth 100000 in
theorem lifted (os : Os) (started : os.Started) (H : Type) (enc : TypeId × Value → H) :
    ReturnsInHanded {} Tryz.checked os 5 .any (Rows.topSealedTamperedSpec.pre6 enc Tryz.prog Tryz.f5 Rows.topSealedTamperedRow.domain false) (Rows.topSealedTamperedSpec.post enc Tryz.prog Tryz.f5 false true false false) := by
  refine returnsInHanded_of_change (C := Tryz.checked) own started (by kernel_rfl) Tryz.func5
    (ChangeSpec.witness6 (enc := enc) (C := Tryz.checked) false ⟨#[], #[.slice none 0 0, .slice none 0 0, .agg #[.int .u8 0, .int .u8 0, .int .u8 0]], []⟩ 8 (by kernel_rfl) (by kernel_rfl) (by kernel_rfl) (by kernel_rfl)) ?_
  intro W base args ds gs before hval hW _ _
  exact law_post (ss := [.slc (.int .u8), .slc (.slc (.pair (.int .i64) (.pair (.slc (.int .u8)) .unit))), .arr 3 (.int .u8)]) (g := fun x => (TopSealedTampered_P x.1 x.2.1 x.2.2.1, [.d .bool (TopSealedTampered_r x.1 x.2.1 x.2.2.1)])) Go.AI.TopSealedTampered_contract (by kernel_rfl) (by kernel_rfl) (by kernel_rfl) rfl (by kernel_rfl) rfl (fun ds h => by
    have h : ds.length = 3 := h
    match ds, h with
    | [d0, d1, d2], _ => rfl) answers hval hW

theorem over : Rows.topSealedTamperedRow.holds Tryz.pinned (OpenSpec.ofChange Rows.topSealedTamperedSpec) :=
  OpenClaim.holds_of_wide 5 Tryz.f5 rfl rfl rfl rfl rfl rfl rfl ⟨rfl, rfl, rfl, rfl, rfl⟩ rfl rfl rfl rfl rfl (by kernel_rfl) Tryz.func5 (by kernel_rfl)
    (of_decide_eq_true (by kernel_rfl)) (by unfold Func.isWrapper; first | (rw [if_pos (by decide +kernel)]; kernel_rfl) | (rw [if_neg (by decide +kernel)]; exact ⟨rfl, rfl⟩))
    (fun os started H enc _ => lifted os started H enc)

theorem proved : Rows.TopSealedTamperedSaid := over
#print axioms proved
end Go.Proofs.YtnmidfcefljafaaGreat.TopSealedTampered
