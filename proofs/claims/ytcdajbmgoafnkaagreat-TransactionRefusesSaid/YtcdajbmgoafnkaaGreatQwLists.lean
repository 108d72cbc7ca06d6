/- Texts of the proof, joined: Lists. Names of our own are shortened by program; the long ones stand in wip/. -/
import Derived.Test.YtcdajbmgoafnkaaGreatQwWord
namespace Go.AI
open Go
def Klq {α : Type} (f : α → α) : Nat → List α → List α
 | 0, l => l
 | _ + 1, [] => []
 | n + 1, x :: xs => f x :: Klq f n xs
theorem Klr {α : Type} (f : α → α) : ∀ (n : Nat) (l : List α), (Klq f n l).length = l.length
 | 0, _ => rfl
 | _ + 1, [] => rfl
 | n + 1, x :: xs => by simp only [Klq, List.length_cons, Klr f n xs]
theorem Kls {α : Type} (f : α → α) (d : α) : ∀ (n : Nat) (l : List α), (Klq f n l).getD n d = l.getD n d
 | 0, _ => rfl
 | _ + 1, [] => rfl
 | n + 1, _ :: xs => Kls f d n xs
theorem Klt {α : Type} (f : α → α) (d : α) : ∀ (n : Nat) (l : List α), n < l.length → (Klq f n l).set n (f (l.getD n d)) = Klq f (n + 1) l
 | 0, [], h => absurd h (by simp)
 | 0, x :: xs, _ => by cases xs <;> rfl
 | n + 1, [], h => absurd h (by simp)
 | n + 1, x :: xs, h => congrArg (f x :: ·) (Klt f d n xs (by simpa using h))
theorem Klu {α : Type} (f : α → α) : ∀ (n : Nat) (l : List α), l.length ≤ n → Klq f n l = l.map f
 | 0, [], _ => rfl
 | 0, x :: xs, h => absurd h (by simp)
 | n + 1, [], _ => rfl
 | n + 1, x :: xs, h => congrArg (f x :: ·) (Klu f n xs (by simpa using h))
end Go.AI
