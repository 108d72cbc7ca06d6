/- The contract of the inverse, for the matrices that are asked for. -/
import Derived.Test.YtaoimnfmhdmkmaaVolI1
import Derived.Test.YtaoimnfmhdmkmaaVolI2
import Derived.Test.YtaoimnfmhdmkmaaVolI3
import Derived.Test.YtaoimnfmhdmkmaaVolI4
import Derived.Test.YtaoimnfmhdmkmaaVolI5
import Derived.Test.YtaoimnfmhdmkmaaVolI6
import Derived.Test.YtaoimnfmhdmkmaaVolI7
import Derived.Test.YtaoimnfmhdmkmaaVolI8
import Derived.KernelRfl
noncomputable section
namespace Go.AI
open Go
open Go.Proofs.Try (prog)
theorem all_getD {α : Type} {C : α → Prop} (d : α) : ∀ (l : List α), (∀ i, i < l.length → C (l.getD i d)) → ∀ e, e ∈ l → C e := fun l h e he => by
  obtain ⟨i, hi, rfl⟩ := List.getElem_of_mem he
  have := h i hi
  rwa [List.getD, List.getElem?_eq_getElem hi] at this
theorem inv_all : ∀ e, e ∈ invTab → InvOk e.1 e.2 := all_getD (C := fun e : Mat × Mat => InvOk e.1 e.2) ([], []) invTab (fun i hi => match i, hi with
  | 0, _ => inv_run_0
  | 1, _ => inv_run_1
  | 2, _ => inv_run_2
  | 3, _ => inv_run_3
  | 4, _ => inv_run_4
  | 5, _ => inv_run_5
  | 6, _ => inv_run_6
  | 7, _ => inv_run_7
  | 8, _ => inv_run_8
  | 9, _ => inv_run_9
  | 10, _ => inv_run_10
  | 11, _ => inv_run_11
  | 12, _ => inv_run_12
  | 13, _ => inv_run_13
  | 14, _ => inv_run_14
  | 15, _ => inv_run_15
  | 16, _ => inv_run_16
  | 17, _ => inv_run_17
  | 18, _ => inv_run_18
  | 19, _ => inv_run_19
  | 20, _ => inv_run_20
  | 21, _ => inv_run_21
  | 22, _ => inv_run_22
  | 23, _ => inv_run_23
  | 24, _ => inv_run_24
  | 25, _ => inv_run_25
  | 26, _ => inv_run_26
  | 27, _ => inv_run_27
  | 28, _ => inv_run_28
  | 29, _ => inv_run_29
  | 30, _ => inv_run_30
  | 31, _ => inv_run_31
  | 32, _ => inv_run_32
  | 33, _ => inv_run_33
  | 34, _ => inv_run_34
  | 35, _ => inv_run_35
  | 36, _ => inv_run_36
  | 37, _ => inv_run_37
  | 38, _ => inv_run_38
  | 39, _ => inv_run_39
  | 40, _ => inv_run_40
  | 41, _ => inv_run_41
  | 42, _ => inv_run_42
  | 43, _ => inv_run_43
  | 44, _ => inv_run_44
  | 45, _ => inv_run_45
  | 46, _ => inv_run_46
  | 47, _ => inv_run_47
  | 48, _ => inv_run_48
  | 49, _ => inv_run_49
  | 50, _ => inv_run_50
  | 51, _ => inv_run_51
  | 52, _ => inv_run_52
  | 53, _ => inv_run_53
  | 54, _ => inv_run_54
  | 55, _ => inv_run_55
  | 56, _ => inv_run_56
  | n + 57, h => absurd h (by show ¬ n + 57 < 57; omega))
@[reducible] def gInvert_ps : List PM := [.d (.slc (.slc (.int .u8)))]
def gInvert_orc : Orc := Orc.of gInvert_ps false 0 fun x => (gInvert_P x.1, [.d (.slc (.slc (.int .u8))) (gInvert_r0 x.1), .d (.int .i64) (gInvert_r1 x.1)])
theorem gInvert_contract : Contract prog 39 gInvert_orc := contract_of_runL (B0 := gInvert_book.toBook) (noNumB_ok num_ok) (rangesB_ok rng_ok) mix_ok (gamB_ok gamn22_ok) (orcsOf_ok (fa gField_contract (fa tInv_contract (fa isMat_contract (fa tMul_contract (fa sClone_contract fz)))))) (by kernel_rfl)
  (fun x h => ⟨300, 20, gInvert_book, rfl, gInvert_loOk 300, tab_ind (C := InvOk) inv_all [] h⟩)
end Go.AI
