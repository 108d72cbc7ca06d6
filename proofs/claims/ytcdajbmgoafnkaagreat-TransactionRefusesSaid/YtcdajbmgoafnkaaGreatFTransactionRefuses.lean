/- For every input that the row admits, the law 'TransactionRefuses' returns true and what the input reads as stays. -/
import Derived.Test.YtcdajbmgoafnkaaGreatRows
import Derived.WalkKit
import Derived.ProofKit
import Derived.OpenShut
import Derived.Test.YtcdajbmgoafnkaaGreatQwM2
namespace Go.Proofs.YtcdajbmgoafnkaaGreat.TransactionRefuses
open Go Go.AI Go.RowKit Go.WideShapes Go.ChangeShapes

theorem own : ownKnob Tryz.prog.godebug = none := by kernel_rfl
theorem answers : ∀ x : LawT [.slc (.slc (.pair (.int .i64) (.pair (.slc (.int .u8)) .unit))), .slc (.int .u8), .slc (.int .u8)], WfArgs [.slc (.slc (.pair (.int .i64) (.pair (.slc (.int .u8)) .unit))), .slc (.int .u8), .slc (.int .u8)] x → (fun x : LawT [.slc (.slc (.pair (.int .i64) (.pair (.slc (.int .u8)) .unit))), .slc (.int .u8), .slc (.int .u8)] => (TransactionRefuses_P x.1 x.2.1 x.2.2.1, [.d .bool (TransactionRefuses_r x.1 x.2.1 x.2.2.1)])) x = (true, [BV.d .bool true]) := fun x h => by
  have e := Go.AI.TransactionRefuses_wf x h
  simp only [e]
  rfl

set_option maxRecDepth 100000 in
theorem lifted (os : Os) (started : os.Started) (H : Type) (enc : TypeId × Value → H) :
    ReturnsInHanded {} Tryz.checked os 6 .any (Rows.transactionRefusesSpec.pre6 enc Tryz.prog Tryz.f6 Rows.transactionRefusesRow.domain false) (Rows.transactionRefusesSpec.post enc Tryz.prog Tryz.f6 false true false false) := by
  refine returnsInHanded_of_change (C := Tryz.checked) own started (by kernel_rfl) Tryz.func6
    (ChangeSpec.witness6 (enc := enc) (C := Tryz.checked) false ⟨#[], #[.slice none 0 0, .slice none 0 0, .slice none 0 0], []⟩ 8 (by kernel_rfl) (by kernel_rfl) (by kernel_rfl) (by kernel_rfl)) ?_
  intro W base args ds gs before hval hW _ _
  exact law_post (ss := [.slc (.slc (.pair (.int .i64) (.pair (.slc (.int .u8)) .unit))), .slc (.int .u8), .slc (.int .u8)]) (g := fun x => (TransactionRefuses_P x.1 x.2.1 x.2.2.1, [.d .bool (TransactionRefuses_r x.1 x.2.1 x.2.2.1)])) Go.AI.TransactionRefuses_contract (by kernel_rfl) (by kernel_rfl) (by kernel_rfl) rfl (by kernel_rfl) rfl (fun ds h => by
    have h : ds.length = 3 := h
    match ds, h with
    | [d0, d1, d2], _ => rfl) answers hval hW

theorem over : Rows.transactionRefusesRow.holds Tryz.pinned (OpenSpec.ofChange Rows.transactionRefusesSpec) :=
  OpenClaim.holds_of_wide 6 Tryz.f6 rfl rfl rfl rfl rfl rfl rfl ⟨rfl, rfl, rfl, rfl, rfl⟩ rfl rfl rfl rfl rfl (by kernel_rfl) Tryz.func6 (by kernel_rfl)
    (of_decide_eq_true (by kernel_rfl)) (by unfold Func.isWrapper; first | (rw [if_pos (by decide +kernel)]; kernel_rfl) | (rw [if_neg (by decide +kernel)]; exact ⟨rfl, rfl⟩))
    (fun os started H enc _ => lifted os started H enc)

theorem proved : Rows.TransactionRefusesSaid := over
#print axioms proved
end Go.Proofs.YtcdajbmgoafnkaaGreat.TransactionRefuses
