/- For every input that the row admits, the law 'CipherInverts' returns true and what the input reads as stays. -/
import Derived.Test.YtfpconfgbkoifaaRows
import Derived.WalkKit
import Derived.ProofKit
import Derived.OpenShut
import Derived.Test.YtfpconfgbkoifaaCipherL
import Derived.Test.YtfpconfgbkoifaaCipherW
namespace Go.Proofs.Ytfpconfgbkoifaa.CipherInverts
open Go Go.AI Go.RowKit Go.WideShapes Go.ChangeShapes

theorem own : ownKnob Try.prog.godebug = none := by kernel_rfl
theorem answers : ∀ x : LawT [.arr 32 (.int .u8), .int .u32, .arr 2 (.slc (.int .u8))], WfArgs [.arr 32 (.int .u8), .int .u32, .arr 2 (.slc (.int .u8))] x → (fun x : LawT [.arr 32 (.int .u8), .int .u32, .arr 2 (.slc (.int .u8))] => (CipherInverts_P x.1 x.2.1 x.2.2.1, [.d .bool (CipherInverts_r x.1 x.2.1 x.2.2.1)])) x = (true, [BV.d .bool true]) := fun x h => by
  have e := Go.AI.CipherInverts_wf x h
  simp only [e]
  rfl

set_option maxRecDepth 100000 in
theorem lifted (os : Os) (started : os.Started) (H : Type) (enc : TypeId × Value → H) :
    ReturnsInHanded {} Try.checked os 4 .any (Rows.cipherInvertsSpec.pre6 enc Try.prog Try.f4 Rows.cipherInvertsRow.domain false) (Rows.cipherInvertsSpec.post enc Try.prog Try.f4 false true false false) := by
  refine returnsInHanded_of_change (C := Try.checked) own started (by kernel_rfl) Try.func4
    (ChangeSpec.witness6 (enc := enc) (C := Try.checked) false ⟨#[], #[.agg #[.int .u8 0, .int .u8 0, .int .u8 0, .int .u8 0, .int .u8 0, .int .u8 0, .int .u8 0, .int .u8 0, .int .u8 0, .int .u8 0, .int .u8 0, .int .u8 0, .int .u8 0, .int .u8 0, .int .u8 0, .int .u8 0, .int .u8 0, .int .u8 0, .int .u8 0, .int .u8 0, .int .u8 0, .int .u8 0, .int .u8 0, .int .u8 0, .int .u8 0, .int .u8 0, .int .u8 0, .int .u8 0, .int .u8 0, .int .u8 0, .int .u8 0, .int .u8 0], .int .u32 0, .agg #[.slice none 0 0, .slice none 0 0]], []⟩ 8 (by kernel_rfl) (by kernel_rfl) (by kernel_rfl) (by kernel_rfl)) ?_
  intro W base args ds gs before hval hW _ _
  exact law_post (ss := [.arr 32 (.int .u8), .int .u32, .arr 2 (.slc (.int .u8))]) (g := fun x => (CipherInverts_P x.1 x.2.1 x.2.2.1, [.d .bool (CipherInverts_r x.1 x.2.1 x.2.2.1)])) Go.AI.CipherInverts_contract (by kernel_rfl) (by kernel_rfl) (by kernel_rfl) rfl (by kernel_rfl) rfl (fun ds h => by
    have h : ds.length = 3 := h
    match ds, h with
    | [d0, d1, d2], _ => rfl) answers hval hW

theorem over : Rows.cipherInvertsRow.holds Try.pinned (OpenSpec.ofChange Rows.cipherInvertsSpec) :=
  OpenClaim.holds_of_wide 4 Try.f4 rfl rfl rfl rfl rfl rfl rfl ⟨rfl, rfl, rfl, rfl, rfl⟩ rfl rfl rfl rfl rfl (by kernel_rfl) Try.func4 (by kernel_rfl)
    (of_decide_eq_true (by kernel_rfl)) (by unfold Func.isWrapper; first | (rw [if_pos (by decide +kernel)]; kernel_rfl) | (rw [if_neg (by decide +kernel)]; exact ⟨rfl, rfl⟩))
    (fun os started H enc _ => lifted os started H enc)

theorem proved : Rows.CipherInvertsSaid := over
#print axioms proved
end Go.Proofs.Ytfpconfgbkoifaa.CipherInverts
