/- Texts of the proof, joined: Lists. Names of our own are shortened by program; the long ones stand in wip/. -/
import Derived.Test.YtnmidfcefljafaaGreatQsWord
namespace Go.AI
open Go
def Kf5 {α : Type} (f : α → α) : Nat → List α → List α
 | 0, l => l
 | _ + 1, [] => []
 | n + 1, x :: xs => f x :: Kf5 f n xs
theorem Kf6 {α : Type} (f : α → α) : ∀ (n : Nat) (l : List α), (Kf5 f n l).length = l.length
 | 0, _ => rfl
 | _ + 1, [] => rfl
 | n + 1, x :: xs => by simp only [Kf5, List.length_cons, Kf6 f n xs]
theorem Kf7 {α : Type} (f : α → α) (d : α) : ∀ (n : Nat) (l : List α), (Kf5 f n l).getD n d = l.getD n d
 | 0, _ => rfl
 | _ + 1, [] => rfl
 | n + 1, _ :: xs => Kf7 f d n xs
theorem Kf8 {α : Type} (f : α → α) (d : α) : ∀ (n : Nat) (l : List α), n < l.length → (Kf5 f n l).set n (f (l.getD n d)) = Kf5 f (n + 1) l
 | 0, [], h => absurd h (by simp)
 | 0, x :: xs, _ => by cases xs <;> rfl
 | n + 1, [], h => absurd h (by simp)
 | n + 1, x :: xs, h => congrArg (f x :: ·) (Kf8 f d n xs (by simpa using h))
theorem Kf9 {α : Type} (f : α → α) : ∀ (n : Nat) (l : List α), l.length ≤ n → Kf5 f n l = l.map f
 | 0, [], _ => rfl
 | 0, x :: xs, h => absurd h (by simp)
 | n + 1, [], _ => rfl
 | n + 1, x :: xs, h => congrArg (f x :: ·) (Kf9 f n xs (by simpa using h))
end Go.AI
