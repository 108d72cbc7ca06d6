/- The reference's Groups: the two appends. -/
import Derived.Test.YtlilfooddecabaaFragR6
namespace Go.AI
open Go Go.RowKit
open Go.Proofs.Try (prog)
set_option maxRecDepth 100000

/-- Slots that are known. -/
def KS (a : Act) (L : List (Nat × Value)) : Prop := a.tmps.size = 86 ∧ ∀ p, p ∈ L → a.tmps.getD p.1 undef = p.2
theorem KS.put {a : Act} {L : List (Nat × Value)} (h : KS a L) {d : Nat} (v : Value) (hd : d < 86) (hL : (L.all fun p => decide (d ≠ p.1)) = true) : KS (a.put (some d) v) ((d, v) :: L) := by
  refine ⟨(put_size a _ v).trans h.1, fun p hp => ?_⟩
  rcases List.mem_cons.1 hp with rfl | hp
  · exact put_hit a v (by rw [h.1]; exact hd)
  · have := List.all_eq_true.1 hL p hp
    rw [put_slot a _ v (by simpa using this)]
    exact h.2 p hp
theorem KS.sub {a : Act} {L M : List (Nat × Value)} (h : KS a L) (hs : ∀ p, p ∈ M → p ∈ L) : KS a M := ⟨h.1, fun p hp => h.2 p (hs p hp)⟩
theorem KS.ev {a : Act} {L : List (Nat × Value)} (h : KS a L) {t : Nat} {v : Value} (hm : (t, v) ∈ L) : a.eval (.tmp t) = v := h.2 (t, v) hm

/-- One slot is known. -/
def one (k : Nat) (v : AV) : List AV := List.replicate k .dead ++ v :: List.replicate (85 - k) .dead
theorem one_getD (k : Nat) (v : AV) (i : Nat) : (one k v).getD i .dead = v ∨ (one k v).getD i .dead = .dead := by
  simp only [one, List.getD, List.getElem?_append, List.getElem?_replicate, List.length_replicate, List.getElem?_cons]
  by_cases h1 : i < k
  · simp [h1]
  · by_cases h2 : i - k = 0
    · simp [h1, h2]
    · simp only [h1, h2, if_false]
      split <;> simp
theorem one_hit (k : Nat) (v : AV) : (one k v).getD k .dead = v := by
  simp [one, List.getD]
theorem one_other {k i : Nat} (v : AV) (h : i ≠ k) : (one k v).getD i .dead = .dead := by
  simp only [one, List.getD, List.getElem?_append, List.getElem?_replicate, List.length_replicate, List.getElem?_cons]
  by_cases h1 : i < k
  · simp [h1]
  · simp only [h1, if_false, show ¬ i - k = 0 by omega]
    split <;> simp
theorem one_fr {w : World} {A : Nat → Prop} {k : Nat} {v : AV} {a : Act} (hk : k < 86) (hs : a.tmps.size = 86) (hv : RV w A [] r0 v (a.tmps.getD k undef)) : FrOk w A [] r0 (one k v) a.tmps := by
  refine ⟨by rw [hs]; simp only [one, List.length_append, List.length_cons, List.length_replicate]; omega, fun i => ?_⟩
  by_cases h : i = k
  · subst h; rw [one_hit]; exact hv
  · rw [one_other v h]; exact trivial

def op (P : Program) (id k : Nat) : Oper := (rg P id).getD k default
theorem e17 : rg prog 17 = [op prog 17 0, op prog 17 1, op prog 17 2, op prog 17 3, op prog 17 4, op prog 17 5, op prog 17 6, op prog 17 7, op prog 17 8, op prog 17 9, op prog 17 10, op prog 17 11, op prog 17 12] := by kernel_rfl
theorem o17_0 : ((op prog 17 0).guard, (op prog 17 0).op, (op prog 17 0).dst) = (none, .move (.tmp 7), some 58) := by kernel_rfl
theorem o17_3 : ((op prog 17 3).guard, (op prog 17 3).op, (op prog 17 3).dst) = (none, .move (.tmp 7), some 61) := by kernel_rfl
theorem o17_6 : ((op prog 17 6).guard, (op prog 17 6).op, (op prog 17 6).dst) = (none, .indexAddr 46 (.tmp 61) (.tmp 63), some 64) := by kernel_rfl
theorem o17_7 : ((op prog 17 7).guard, (op prog 17 7).op, (op prog 17 7).dst) = (none, .load 45 (.tmp 64), some 65) := by kernel_rfl
theorem o17_8 : ((op prog 17 8).guard, (op prog 17 8).op, (op prog 17 8).dst) = (none, .move (.tmp 9), some 66) := by kernel_rfl
theorem o17_9 : ((op prog 17 9).guard, (op prog 17 9).op, (op prog 17 9).dst) = (none, .buildSlice 45 1 #[(0, .tmp 66)], some 67) := by kernel_rfl
theorem o17_10 : ((op prog 17 10).guard, (op prog 17 10).op, (op prog 17 10).dst) = (none, .call { callee := .builtin .append, args := #[.tmp 65, .tmp 67], argTypes := #[45, 45] }, some 68) := by kernel_rfl
theorem o17_11 : ((op prog 17 11).guard, (op prog 17 11).op, (op prog 17 11).dst) = (none, .indexAddr 46 (.tmp 58) (.tmp 60), some 69) := by kernel_rfl
theorem o17_12 : ((op prog 17 12).guard, (op prog 17 12).op, (op prog 17 12).dst) = (none, .store 45 (.tmp 69) (.tmp 68), none) := by kernel_rfl
theorem f17_1 (n : Int) : fops gam (rg prog 17) [op prog 17 1, op prog 17 2] (one 10 (dI n)) (fun c => some (keepOnly [60] c, c.getD 60 .dead)) = some (one 60 (dI (subI n 1)), dI (subI n 1)) := by kernel_rfl
theorem f17_4 (n : Int) : fops gam (rg prog 17) [op prog 17 4, op prog 17 5] (one 10 (dI n)) (fun c => some (keepOnly [63] c, c.getD 63 .dead)) = some (one 63 (dI (subI n 1)), dI (subI n 1)) := by kernel_rfl

theorem tOuter : gam.at_ 46 = some ⟨.slice 45, 1, some (.slc rowS), false⟩ := by kernel_rfl
theorem tInner : gam.at_ 45 = some ⟨.slice 3, 1, some rowS, false⟩ := by kernel_rfl
theorem elOuter : gam.elem 46 = some (45, rowS) := by kernel_rfl
theorem elInner : gam.elem 45 = some (3, .int .i64) := by kernel_rfl
theorem gamOk : GamOk prog gam := gamB_ok gam_ok
end Go.AI
