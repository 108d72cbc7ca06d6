/- What the closure does that a reader's read defers: it does nothing behind a return, and takes a panic for an incomplete commit. -/
import Derived.Test.YtaobeghgcfbcfaaTypes
import Derived.Test.YtaobeghgcfbcfaaA5
import Derived.RecoverIn
import Derived.Tactics
import Derived.Tactics2
import Derived.TacticsInMore
import Derived.RegionIn
import Derived.Laws.Pointers
namespace Go.AI
open Go Go.Proofs

def rcvs (f : FuncId) : Option Rcv := bif Nat.beq f 43 then some { clo := 59, ncap := 2, pan := 110, sto := [(0, 36, none), (1, 4, some false)] } else none

theorem rcv_ret (p q : Value) (w : World) : CallsDIn (Fe none) 0 Try.prog 59 #[p, q] .returning w fun e u' w' => (∃ v, e = .returned v) ∧ u' = .returning ∧ w' = w := by
  refine callsDIn_of_wpSIn Try.func59 rfl trivial fun c₀ cs hu => ?_
  apply wpSIn_seq
  apply wpSIn_region
  simp [wpOpsSIn, go_sem, recoverD, hu, Try.ntmps59, Exit.thenS]
  apply wpSIn_seq
  apply wpSIn_region
  simp [wpOpsSIn, go_sem, Exit.thenS]
  refine wpSIn_cond (t := false) (by simp [Act.eval, Array.replicate]) ?_
  simp only [Bool.false_eq_true, if_false]
  refine wpSIn_of_wpIn rfl (wpIn_skip ?_)
  cases c₀
  simp_all [bodyPostS, results, Try.results59]
theorem rcv_pan (p q : Value) (w w' : World) (h : RunSto Try.prog [p, q] [(0, 36, none), (1, 4, some false)] (w.alloc (.cells #[] 110)) w') :
    CallsDIn (Fe none) 0 Try.prog 59 #[p, q] (.panicking (panicked 110)) w fun e u' w'' => (∃ v, e = .returned v) ∧ settle u' = .returning ∧ w'' = w' := by
  obtain ⟨w1, h1, w2, h2, h3⟩ := h
  simp only [RunSto] at h3
  subst h3
  have hta : ∀ w, (Instr.typeAssert (.iface 110 (.agg #[])) 20 110 true).run Try.prog w = .ok (.tuple #[.agg #[], .bool true]) w := fun w => by kernel_rfl
  refine callsDIn_of_wpSIn Try.func59 rfl trivial fun c₀ cs hu => ?_
  apply wpSIn_seq
  apply wpSIn_region
  simp [wpOpsSIn, go_sem, recoverD, hu, Try.ntmps59, Exit.thenS, panicked]
  apply wpSIn_seq
  apply wpSIn_region
  simp [wpOpsSIn, go_sem, Exit.thenS]
  refine wpSIn_cond (t := true) (by simp [Act.eval, Array.replicate]) ?_
  simp only [if_true]
  apply wpSIn_seq
  apply wpSIn_seq
  apply wpSIn_region
  simp [wpOpsSIn, go_sem, Exit.thenS, hta]
  apply wpSIn_seq
  apply wpSIn_region
  simp [wpOpsSIn, go_sem, Exit.thenS]
  refine wpSIn_cond (t := false) (by simp [Act.eval, Array.replicate]) ?_
  simp only [Bool.false_eq_true, if_false]
  refine wpSIn_of_wpIn rfl (wpIn_skip ?_)
  simp only [Exit.thenS]
  apply wpSIn_region
  have g1 : (Instr.storeAt 36 p (.slice none 0 0)).run Try.prog (w.alloc (.cells #[] 110)) = .ok () w1 := h1
  have g2 : (Instr.storeAt 4 q (.bool false)).run Try.prog w1 = .ok () w' := h2
  show wpOpsSIn (Fe none) 0 Try.prog _ _ [0, 1] _ _ _
  simp [wpOpsSIn, execOp, Act.eval, Act.put, Region.wanted, g1, g2, bodyPostS, results, Try.results59, settle]
  exact ⟨fun _ _ => trivial, fun _ _ => trivial⟩
theorem rcvs_ok : RcvOk Try.prog rcvs := by
  intro f rc h
  unfold rcvs at h
  cases hf : Nat.beq f 43 with
  | false => rw [hf] at h; cases h
  | true =>
    rw [hf] at h
    cases h
    have two : ∀ caps : Array Value, caps.size = 2 → ∃ p q, caps = #[p, q] := fun caps h => by
      obtain ⟨l⟩ := caps
      match l, h with
      | [p, q], _ => exact ⟨p, q, rfl⟩
    refine ⟨⟨Try.f59, Try.func59, by kernel_rfl, by kernel_rfl⟩, fun caps w h => ?_, fun caps w h => ⟨.cells #[] 110, fun w' hs => ?_⟩⟩
    · obtain ⟨p, q, rfl⟩ := two caps h
      exact rcv_ret p q w
    · obtain ⟨p, q, rfl⟩ := two caps h
      exact rcv_pan p q w w' hs
end Go.AI
