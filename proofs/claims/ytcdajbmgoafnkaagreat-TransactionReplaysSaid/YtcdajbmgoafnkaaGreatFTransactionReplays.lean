/- For every input that the row admits, the law 'TransactionReplays' returns true and what the input reads as stays. -/
import Derived.Test.YtcdajbmgoafnkaaGreatRows
import Derived.WalkKit
import Derived.ProofKit
import Derived.OpenShut
import Derived.Test.YtcdajbmgoafnkaaGreatQrM2
namespace Go.Proofs.YtcdajbmgoafnkaaGreat.TransactionReplays
open Go Go.AI Go.RowKit Go.WideShapes Go.ChangeShapes

theorem own : ownKnob Tryz.prog.godebug = none := by kernel_rfl
theorem answers : ∀ x : LawT [.pair (.slc (.arr 16 (.int .u8))) (.pair (.slc (.pair (.int .i64) (.pair (.arr 16 (.int .u8)) .unit))) .unit), .slc (.int .u8)], WfArgs [.pair (.slc (.arr 16 (.int .u8))) (.pair (.slc (.pair (.int .i64) (.pair (.arr 16 (.int .u8)) .unit))) .unit), .slc (.int .u8)] x → (fun x : LawT [.pair (.slc (.arr 16 (.int .u8))) (.pair (.slc (.pair (.int .i64) (.pair (.arr 16 (.int .u8)) .unit))) .unit), .slc (.int .u8)] => (TransactionReplays_P x.1 x.2.1, [.d .bool (TransactionReplays_r x.1 x.2.1)])) x = (true, [BV.d .bool true]) := fun x h => by
  have e := Go.AI.TransactionReplays_wf x h
  simp only [e]
  rfl

set_option maxRecDepth 100000 in
theorem lifted (os : Os) (started : os.Started) (H : Type) (enc : TypeId × Value → H) :
    ReturnsInHanded {} Tryz.checked os 4 .any (Rows.transactionReplaysSpec.pre6 enc Tryz.prog Tryz.f4 Rows.transactionReplaysRow.domain false) (Rows.transactionReplaysSpec.post enc Tryz.prog Tryz.f4 false true false false) := by
  refine returnsInHanded_of_change (C := Tryz.checked) own started (by kernel_rfl) Tryz.func4
    (ChangeSpec.witness6 (enc := enc) (C := Tryz.checked) false ⟨#[], #[.agg #[.slice none 0 0, .slice none 0 0], .slice none 0 0], []⟩ 8 (by kernel_rfl) (by kernel_rfl) (by kernel_rfl) (by kernel_rfl)) ?_
  intro W base args ds gs before hval hW _ _
  exact law_post (ss := [.pair (.slc (.arr 16 (.int .u8))) (.pair (.slc (.pair (.int .i64) (.pair (.arr 16 (.int .u8)) .unit))) .unit), .slc (.int .u8)]) (g := fun x => (TransactionReplays_P x.1 x.2.1, [.d .bool (TransactionReplays_r x.1 x.2.1)])) Go.AI.TransactionReplays_contract (by kernel_rfl) (by kernel_rfl) (by kernel_rfl) rfl (by kernel_rfl) rfl (fun ds h => by
    have h : ds.length = 2 := h
    match ds, h with
    | [d0, d1], _ => rfl) answers hval hW

theorem over : Rows.transactionReplaysRow.holds Tryz.pinned (OpenSpec.ofChange Rows.transactionReplaysSpec) :=
  OpenClaim.holds_of_wide 4 Tryz.f4 rfl rfl rfl rfl rfl rfl rfl ⟨rfl, rfl, rfl, rfl, rfl⟩ rfl rfl rfl rfl rfl (by kernel_rfl) Tryz.func4 (by kernel_rfl)
    (of_decide_eq_true (by kernel_rfl)) (by unfold Func.isWrapper; first | (rw [if_pos (by decide +kernel)]; kernel_rfl) | (rw [if_neg (by decide +kernel)]; exact ⟨rfl, rfl⟩))
    (fun os started H enc _ => lifted os started H enc)

theorem proved : Rows.TransactionReplaysSaid := over
#print axioms proved
end Go.Proofs.YtcdajbmgoafnkaaGreat.TransactionReplays
