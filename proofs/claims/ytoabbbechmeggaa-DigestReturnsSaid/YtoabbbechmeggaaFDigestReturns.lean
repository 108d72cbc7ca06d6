/- For every input that the row admits, the law 'DigestReturns' returns true and what the input reads as stays. -/
import Derived.Test.YtoabbbechmeggaaRows
import Derived.WalkKit
import Derived.ProofKit
import Derived.OpenShut
import Derived.Test.YtoabbbechmeggaaDigestL
import Derived.Test.YtoabbbechmeggaaDigestW
namespace Go.Proofs.Ytoabbbechmeggaa.DigestReturns
open Go Go.AI Go.RowKit Go.WideShapes Go.ChangeShapes

theorem own : ownKnob Try.prog.godebug = none := by kernel_rfl
theorem answers : ∀ x : LawT [.arr 32 (.int .u8), .str], WfArgs [.arr 32 (.int .u8), .str] x → (fun x : LawT [.arr 32 (.int .u8), .str] => (DigestReturns_P x.1 x.2.1, [.d .bool (DigestReturns_r x.1 x.2.1)])) x = (true, [BV.d .bool true]) := fun x h => by
  have e := Go.AI.DigestReturns_wf x h
  simp only [e]
  rfl

set_option maxRecDepth 100000 in
theorem lifted (os : Os) (started : os.Started) (H : Type) (enc : TypeId × Value → H) :
    ReturnsInHanded {} Try.checked os 8 .any (Rows.digestReturnsSpec.pre6 enc Try.prog Try.f8 Rows.digestReturnsRow.domain false) (Rows.digestReturnsSpec.post enc Try.prog Try.f8 false true false false) := by
  refine returnsInHanded_of_change (C := Try.checked) own started (by kernel_rfl) Try.func8
    (ChangeSpec.witness6 (enc := enc) (C := Try.checked) false ⟨#[], #[.agg #[.int .u8 0, .int .u8 0, .int .u8 0, .int .u8 0, .int .u8 0, .int .u8 0, .int .u8 0, .int .u8 0, .int .u8 0, .int .u8 0, .int .u8 0, .int .u8 0, .int .u8 0, .int .u8 0, .int .u8 0, .int .u8 0, .int .u8 0, .int .u8 0, .int .u8 0, .int .u8 0, .int .u8 0, .int .u8 0, .int .u8 0, .int .u8 0, .int .u8 0, .int .u8 0, .int .u8 0, .int .u8 0, .int .u8 0, .int .u8 0, .int .u8 0, .int .u8 0], .string ByteArray.empty], []⟩ 8 (by kernel_rfl) (by kernel_rfl) (by kernel_rfl) (by kernel_rfl)) ?_
  intro W base args ds gs before hval hW _ _
  exact law_post (ss := [.arr 32 (.int .u8), .str]) (g := fun x => (DigestReturns_P x.1 x.2.1, [.d .bool (DigestReturns_r x.1 x.2.1)])) Go.AI.DigestReturns_contract (by kernel_rfl) (by kernel_rfl) (by kernel_rfl) rfl (by kernel_rfl) rfl (fun ds h => by
    have h : ds.length = 2 := h
    match ds, h with
    | [d0, d1], _ => rfl) answers hval hW

theorem over : Rows.digestReturnsRow.holds Try.pinned (OpenSpec.ofChange Rows.digestReturnsSpec) :=
  OpenClaim.holds_of_wide 8 Try.f8 rfl rfl rfl rfl rfl rfl rfl ⟨rfl, rfl, rfl, rfl, rfl⟩ rfl rfl rfl rfl rfl (by kernel_rfl) Try.func8 (by kernel_rfl)
    (of_decide_eq_true (by kernel_rfl)) (by unfold Func.isWrapper; first | (rw [if_pos (by decide +kernel)]; kernel_rfl) | (rw [if_neg (by decide +kernel)]; exact ⟨rfl, rfl⟩))
    (fun os started H enc _ => lifted os started H enc)

theorem proved : Rows.DigestReturnsSaid := over
#print axioms proved
end Go.Proofs.Ytoabbbechmeggaa.DigestReturns
