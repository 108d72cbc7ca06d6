/- The chapter's examples hold. -/
import Derived.Test.YtlilfooddecabaaFragG2
import Derived.KernelRfl
namespace Go.AI
open Go
theorem law46_awake_plain : ∃ F, ∀ {X : Type} (fail : X) (ret : Bool → X), law46_awake F fail ret = ret law46_awake_r := ⟨1, fun fail ret => by
  kernel_rfl⟩
end Go.AI
