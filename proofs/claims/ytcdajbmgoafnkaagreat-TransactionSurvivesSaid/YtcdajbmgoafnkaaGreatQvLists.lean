/- Texts of the proof, joined: Lists. Names of our own are shortened by program; the long ones stand in wip/. -/
import Derived.Test.YtcdajbmgoafnkaaGreatQvWord
namespace Go.AI
open Go
def Kgu {α : Type} (f : α → α) : Nat → List α → List α
 | 0, l => l
 | _ + 1, [] => []
 | n + 1, x :: xs => f x :: Kgu f n xs
theorem Kgv {α : Type} (f : α → α) : ∀ (n : Nat) (l : List α), (Kgu f n l).length = l.length
 | 0, _ => rfl
 | _ + 1, [] => rfl
 | n + 1, x :: xs => by simp only [Kgu, List.length_cons, Kgv f n xs]
theorem Kgw {α : Type} (f : α → α) (d : α) : ∀ (n : Nat) (l : List α), (Kgu f n l).getD n d = l.getD n d
 | 0, _ => rfl
 | _ + 1, [] => rfl
 | n + 1, _ :: xs => Kgw f d n xs
theorem Kgx {α : Type} (f : α → α) (d : α) : ∀ (n : Nat) (l : List α), n < l.length → (Kgu f n l).set n (f (l.getD n d)) = Kgu f (n + 1) l
 | 0, [], h => absurd h (by simp)
 | 0, x :: xs, _ => by cases xs <;> rfl
 | n + 1, [], h => absurd h (by simp)
 | n + 1, x :: xs, h => congrArg (f x :: ·) (Kgx f d n xs (by simpa using h))
theorem Kgy {α : Type} (f : α → α) : ∀ (n : Nat) (l : List α), l.length ≤ n → Kgu f n l = l.map f
 | 0, [], _ => rfl
 | 0, x :: xs, h => absurd h (by simp)
 | n + 1, [], _ => rfl
 | n + 1, x :: xs, h => congrArg (f x :: ·) (Kgy f n xs (by simpa using h))
end Go.AI
