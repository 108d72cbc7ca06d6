/- Texts of the proof, joined: TopP3. Names of our own are shortened by program; the long ones stand in wip/. -/
import Derived.Test.YtnmidfcefljafaaGreatQpG
import Derived.Test.YtnmidfcefljafaaGreatQpS
import Derived.KernelRfl
namespace Go.AI
open Go
theorem Kdr (_ : Jm2 = true) : ∃ F, ∀ {X : Type} (fail : X) (ret : Bool → X), Kyn F fail ret = ret Jm3 := ⟨1, fun fail ret => by
 kernel_rfl⟩
end Go.AI
