/- Texts of the proof, joined: LogP4. -/
import Derived.Test.YtcdajbmgoafnkaaGreatQcLogP3
namespace Go.AI
open Go
theorem bif_eq_t {X : Type} {c : Bool} {a b x : X} (h1 : c = true) (h2 : a = x) : (bif c then a else b) = x := (bif_true h1 _ _).trans h2
theorem bif_eq_f {X : Type} {c : Bool} {a b x : X} (h1 : c = false) (h2 : b = x) : (bif c then a else b) = x := (bif_false h1 _ _).trans h2
end Go.AI
