/- The chapter's examples hold. -/
import Derived.Test.YtoabbbechmeggaaDigestG4
import Derived.KernelRfl
namespace Go.AI
open Go
theorem law04_awake_plain : ∃ F, ∀ {X : Type} (fail : X) (ret : Bool → X), law04_awake F fail ret = ret law04_awake_r := ⟨1, fun fail ret => by
  kernel_rfl⟩
end Go.AI
