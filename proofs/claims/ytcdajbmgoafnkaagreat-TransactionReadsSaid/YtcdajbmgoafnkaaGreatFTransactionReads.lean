/- For every input that the row admits, the law 'TransactionReads' returns true and what the input reads as stays. -/
import Derived.Test.YtcdajbmgoafnkaaGreatRows
import Derived.WalkKit
import Derived.ProofKit
import Derived.OpenShut
import Derived.Test.YtcdajbmgoafnkaaGreatQdM
namespace Go.Proofs.YtcdajbmgoafnkaaGreat.TransactionReads
open Go Go.AI Go.RowKit Go.WideShapes Go.ChangeShapes

theorem own : ownKnob Tryz.prog.godebug = none := by kernel_rfl
theorem answers : ∀ x : LawT [.slc (.slc (.pair (.int .i64) (.pair (.slc (.int .u8)) .unit))), .slc (.int .u8)], WfArgs [.slc (.slc (.pair (.int .i64) (.pair (.slc (.int .u8)) .unit))), .slc (.int .u8)] x → (fun x : LawT [.slc (.slc (.pair (.int .i64) (.pair (.slc (.int .u8)) .unit))), .slc (.int .u8)] => (TransactionReads_P x.1 x.2.1, [.d .bool (TransactionReads_r x.1 x.2.1)])) x = (true, [BV.d .bool true]) := fun x h => by
  have e := Go.AI.TransactionReads_wf x h
  simp only [e]
  rfl

set_option maxRecDepth 100000 in
theorem lifted (os : Os) (started : os.Started) (H : Type) (enc : TypeId × Value → H) :
    ReturnsInHanded {} Tryz.checked os 5 .any (Rows.transactionReadsSpec.pre6 enc Tryz.prog Tryz.f5 Rows.transactionReadsRow.domain false) (Rows.transactionReadsSpec.post enc Tryz.prog Tryz.f5 false true false false) := by
  refine returnsInHanded_of_change (C := Tryz.checked) own started (by kernel_rfl) Tryz.func5
    (ChangeSpec.witness6 (enc := enc) (C := Tryz.checked) false ⟨#[], #[.slice none 0 0, .slice none 0 0], []⟩ 8 (by kernel_rfl) (by kernel_rfl) (by kernel_rfl) (by kernel_rfl)) ?_
  intro W base args ds gs before hval hW _ _
  exact law_post (ss := [.slc (.slc (.pair (.int .i64) (.pair (.slc (.int .u8)) .unit))), .slc (.int .u8)]) (g := fun x => (TransactionReads_P x.1 x.2.1, [.d .bool (TransactionReads_r x.1 x.2.1)])) Go.AI.TransactionReads_contract (by kernel_rfl) (by kernel_rfl) (by kernel_rfl) rfl (by kernel_rfl) rfl (fun ds h => by
    have h : ds.length = 2 := h
    match ds, h with
    | [d0, d1], _ => rfl) answers hval hW

theorem over : Rows.transactionReadsRow.holds Tryz.pinned (OpenSpec.ofChange Rows.transactionReadsSpec) :=
  OpenClaim.holds_of_wide 5 Tryz.f5 rfl rfl rfl rfl rfl rfl rfl ⟨rfl, rfl, rfl, rfl, rfl⟩ rfl rfl rfl rfl rfl (by kernel_rfl) Tryz.func5 (by kernel_rfl)
    (of_decide_eq_true (by kernel_rfl)) (by unfold Func.isWrapper; first | (rw [if_pos (by decide +kernel)]; kernel_rfl) | (rw [if_neg (by decide +kernel)]; exact ⟨rfl, rfl⟩))
    (fun os started H enc _ => lifted os started H enc)

theorem proved : Rows.TransactionReadsSaid := over
#print axioms proved
end Go.Proofs.YtcdajbmgoafnkaaGreat.TransactionReads
