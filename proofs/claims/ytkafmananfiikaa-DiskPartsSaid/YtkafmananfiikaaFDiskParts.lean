/- For every input that the row admits, the law 'DiskParts' returns true and what the input reads as stays. -/
import Derived.Test.YtkafmananfiikaaRows
import Derived.WalkKit
import Derived.ProofKit
import Derived.OpenShut
import Derived.Test.YtkafmananfiikaaDiskL4
import Derived.Test.YtkafmananfiikaaDiskW4
namespace Go.Proofs.Ytkafmananfiikaa.DiskParts
open Go Go.AI Go.RowKit Go.WideShapes Go.ChangeShapes

theorem own : ownKnob Try.prog.godebug = none := by kernel_rfl
theorem answers : ∀ x : LawT [.slc (.pair (.int .u8) (.pair (.int .u8) (.pair .bool .unit))), .slc (.pair (.int .u8) (.pair (.int .u8) (.pair .bool .unit))), .slc (.int .i64)], WfArgs [.slc (.pair (.int .u8) (.pair (.int .u8) (.pair .bool .unit))), .slc (.pair (.int .u8) (.pair (.int .u8) (.pair .bool .unit))), .slc (.int .i64)] x → (fun x : LawT [.slc (.pair (.int .u8) (.pair (.int .u8) (.pair .bool .unit))), .slc (.pair (.int .u8) (.pair (.int .u8) (.pair .bool .unit))), .slc (.int .i64)] => (DiskParts_P x.1 x.2.1 x.2.2.1, [.d .bool (DiskParts_r x.1 x.2.1 x.2.2.1)])) x = (true, [BV.d .bool true]) := fun x h => by
  have e := Go.AI.DiskParts_wf x h
  simp only [e]
  rfl

set_option maxRecDepth 100000 in
theorem lifted (os : Os) (started : os.Started) (H : Type) (enc : TypeId × Value → H) :
    ReturnsInHanded {} Try.checked os 9 .any (Rows.diskPartsSpec.pre6 enc Try.prog Try.f9 Rows.diskPartsRow.domain false) (Rows.diskPartsSpec.post enc Try.prog Try.f9 false true false false) := by
  refine returnsInHanded_of_change (C := Try.checked) own started (by kernel_rfl) Try.func9
    (ChangeSpec.witness6 (enc := enc) (C := Try.checked) false ⟨#[], #[.slice none 0 0, .slice none 0 0, .slice none 0 0], []⟩ 8 (by kernel_rfl) (by kernel_rfl) (by kernel_rfl) (by kernel_rfl)) ?_
  intro W base args ds gs before hval hW _ _
  exact law_post (ss := [.slc (.pair (.int .u8) (.pair (.int .u8) (.pair .bool .unit))), .slc (.pair (.int .u8) (.pair (.int .u8) (.pair .bool .unit))), .slc (.int .i64)]) (g := fun x => (DiskParts_P x.1 x.2.1 x.2.2.1, [.d .bool (DiskParts_r x.1 x.2.1 x.2.2.1)])) Go.AI.DiskParts_contract (by kernel_rfl) (by kernel_rfl) (by kernel_rfl) rfl (by kernel_rfl) rfl (fun ds h => by
    have h : ds.length = 3 := h
    match ds, h with
    | [d0, d1, d2], _ => rfl) answers hval hW

theorem over : Rows.diskPartsRow.holds Try.pinned (OpenSpec.ofChange Rows.diskPartsSpec) :=
  OpenClaim.holds_of_wide 9 Try.f9 rfl rfl rfl rfl rfl rfl rfl ⟨rfl, rfl, rfl, rfl, rfl⟩ rfl rfl rfl rfl rfl (by kernel_rfl) Try.func9 (by kernel_rfl)
    (of_decide_eq_true (by kernel_rfl)) (by unfold Func.isWrapper; first | (rw [if_pos (by decide +kernel)]; kernel_rfl) | (rw [if_neg (by decide +kernel)]; exact ⟨rfl, rfl⟩))
    (fun os started H enc _ => lifted os started H enc)

theorem proved : Rows.DiskPartsSaid := over
#print axioms proved
end Go.Proofs.Ytkafmananfiikaa.DiskParts
