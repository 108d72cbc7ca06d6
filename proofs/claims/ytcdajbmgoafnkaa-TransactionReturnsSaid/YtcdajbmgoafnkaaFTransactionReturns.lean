/- For every input that the row admits, the law 'TransactionReturns' returns true and what the input reads as stays. -/
import Derived.Test.YtcdajbmgoafnkaaRows
import Derived.WalkKit
import Derived.ProofKit
import Derived.OpenShut
import Derived.Test.YtcdajbmgoafnkaaQeM
namespace Go.Proofs.Ytcdajbmgoafnkaa.TransactionReturns
open Go Go.AI Go.RowKit Go.WideShapes Go.ChangeShapes

theorem own : ownKnob Try.prog.godebug = none := by kernel_rfl
theorem answers : ∀ x : LawT [.slc (.pair (.int .i64) (.pair (.slc (.int .u8)) .unit)), .slc (.int .u8)], WfArgs [.slc (.pair (.int .i64) (.pair (.slc (.int .u8)) .unit)), .slc (.int .u8)] x → (fun x : LawT [.slc (.pair (.int .i64) (.pair (.slc (.int .u8)) .unit)), .slc (.int .u8)] => (TransactionReturns_P x.1 x.2.1, [.d .bool (TransactionReturns_r x.1 x.2.1)])) x = (true, [BV.d .bool true]) := fun x h => by
  have e := Go.AI.TransactionReturns_wf x h
  simp only [e]
  rfl

set_option maxRecDepth 100000 in
theorem lifted (os : Os) (started : os.Started) (H : Type) (enc : TypeId × Value → H) :
    ReturnsInHanded {} Try.checked os 4 .any (Rows.transactionReturnsSpec.pre6 enc Try.prog Try.f4 Rows.transactionReturnsRow.domain false) (Rows.transactionReturnsSpec.post enc Try.prog Try.f4 false true false false) := by
  refine returnsInHanded_of_change (C := Try.checked) own started (by kernel_rfl) Try.func4
    (ChangeSpec.witness6 (enc := enc) (C := Try.checked) false ⟨#[], #[.slice none 0 0, .slice none 0 0], []⟩ 8 (by kernel_rfl) (by kernel_rfl) (by kernel_rfl) (by kernel_rfl)) ?_
  intro W base args ds gs before hval hW _ _
  exact law_post (ss := [.slc (.pair (.int .i64) (.pair (.slc (.int .u8)) .unit)), .slc (.int .u8)]) (g := fun x => (TransactionReturns_P x.1 x.2.1, [.d .bool (TransactionReturns_r x.1 x.2.1)])) Go.AI.TransactionReturns_contract (by kernel_rfl) (by kernel_rfl) (by kernel_rfl) rfl (by kernel_rfl) rfl (fun ds h => by
    have h : ds.length = 2 := h
    match ds, h with
    | [d0, d1], _ => rfl) answers hval hW

theorem over : Rows.transactionReturnsRow.holds Try.pinned (OpenSpec.ofChange Rows.transactionReturnsSpec) :=
  OpenClaim.holds_of_wide 4 Try.f4 rfl rfl rfl rfl rfl rfl rfl ⟨rfl, rfl, rfl, rfl, rfl⟩ rfl rfl rfl rfl rfl (by kernel_rfl) Try.func4 (by kernel_rfl)
    (of_decide_eq_true (by kernel_rfl)) (by unfold Func.isWrapper; first | (rw [if_pos (by decide +kernel)]; kernel_rfl) | (rw [if_neg (by decide +kernel)]; exact ⟨rfl, rfl⟩))
    (fun os started H enc _ => lifted os started H enc)

theorem proved : Rows.TransactionReturnsSaid := over
#print axioms proved
end Go.Proofs.Ytcdajbmgoafnkaa.TransactionReturns
