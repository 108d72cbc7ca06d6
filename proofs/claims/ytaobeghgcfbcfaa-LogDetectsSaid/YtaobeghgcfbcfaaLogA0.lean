/- The chapter's examples hold. -/
import Derived.Test.YtaobeghgcfbcfaaLogG2
import Derived.KernelRfl
namespace Go.AI
open Go
theorem law49_awake_plain : ∃ F, ∀ {X : Type} (fail : X) (ret : Bool → X), law49_awake F fail ret = ret law49_awake_r := ⟨1, fun fail ret => by
  kernel_rfl⟩
end Go.AI
