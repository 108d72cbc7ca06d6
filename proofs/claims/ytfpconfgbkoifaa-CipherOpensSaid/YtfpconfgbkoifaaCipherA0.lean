/- The chapter's examples hold. -/
import Derived.Test.YtfpconfgbkoifaaCipherG4
import Derived.KernelRfl
namespace Go.AI
open Go
theorem law47_awake_plain : ∃ F, ∀ {X : Type} (fail : X) (ret : Bool → X), law47_awake F fail ret = ret law47_awake_r := ⟨1, fun fail ret => by
  kernel_rfl⟩
end Go.AI
