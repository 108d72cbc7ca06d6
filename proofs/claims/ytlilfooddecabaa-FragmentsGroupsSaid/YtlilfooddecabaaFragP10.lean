/- Groups answers as the reference's. -/
import Derived.Test.YtlilfooddecabaaFragG4
import Derived.Test.YtlilfooddecabaaFragP5
namespace Go.AI
open Go

def FragmentsGroups_P (_ : List Int) (_ : Int) : Bool := true
def FragmentsGroups_r (_ : List Int) (_ : Int) : Bool := true
theorem grp_short (most : Int) : ∀ (l : List Int) (i : Nat) (s : Int) (g : List Int), (grpI most l i s g).length ≤ l.length + 1 ∧ ∀ x, x ∈ grpI most l i s g → x.length ≤ l.length + g.length + 1
  | [], i, s, g => by
    rw [grpI]
    split
    · exact ⟨by simp, fun x hx => by cases hx⟩
    · refine ⟨by simp, fun x hx => ?_⟩
      rw [List.mem_singleton.1 hx]; omega
  | n :: r, i, s, g => by
    rw [grpI]
    split
    · have ih := grp_short most r (i + 1) n [(i : Int)]
      refine ⟨by rw [List.length_cons, List.length_cons]; omega, fun x hx => ?_⟩
      rw [List.length_cons]
      rcases List.mem_cons.1 hx with rfl | hx
      · omega
      · have := ih.2 x hx
        rw [List.length_singleton] at this; omega
    · have ih := grp_short most r (i + 1) (s + n) (g ++ [(i : Int)])
      refine ⟨by rw [List.length_cons]; omega, fun x hx => ?_⟩
      have := ih.2 x hx
      rw [List.length_append, List.length_singleton] at this
      rw [List.length_cons]; omega
theorem groups_short {l : List Int} {most : Int} (h : l.length ≤ 300) : shortG (fGroups_r0 l most) = true := by
  unfold shortG fGroups_r0
  split
  · have := grp_short most l 0 0 []
    rw [tt (show (grpI most l 0 0 []).length ≤ 1000000000000 by omega), Bool.true_and, List.all_eq_true]
    intro x hx
    have := this.2 x hx
    rw [List.length_nil] at this
    exact tt (by omega)
  · rfl
theorem FragmentsGroups_plain (l : List Int) (most : Int) (_ : FragmentsGroups_P l most = true) : ∃ F, ∀ {X : Type} (fail : X) (ret : Bool → X), FragmentsGroups F l most fail ret = ret (FragmentsGroups_r l most) := ⟨1, fun fail ret => by
  unfold FragmentsGroups FragmentsGroups_r qGroups_r0 qGroups_r1
  by_cases c : ((l.length : Nat) : Int) > 300
  · rw [bif_true (tt c)]; rfl
  rw [bif_false (ff c), bif_true (c := fGroups_P l most) rfl, bif_true (c := qGroups_P l most) rfl, bif_true (c := law46_awake_r) rfl]
  have hs := groups_short (l := l) (most := most) (by omega)
  rw [bif_true (c := qSameGroups_P (fGroups_r0 l most) (fGroups_r0 l most)) (by unfold qSameGroups_P; rw [hs]; rfl), bif_true (c := qSameGroups_r (fGroups_r0 l most) (fGroups_r0 l most)) (tt rfl), beq_self_eq_true]⟩
end Go.AI
