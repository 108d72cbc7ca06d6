/- Texts of the proof, joined: Lists. -/
import Derived.Test.YtnmidfcefljafaaGreatQtWord
namespace Go.AI
open Go
def mapTo {α : Type} (f : α → α) : Nat → List α → List α
 | 0, l => l
 | _ + 1, [] => []
 | n + 1, x :: xs => f x :: mapTo f n xs
theorem mapTo_len {α : Type} (f : α → α) : ∀ (n : Nat) (l : List α), (mapTo f n l).length = l.length
 | 0, _ => rfl
 | _ + 1, [] => rfl
 | n + 1, x :: xs => by simp only [mapTo, List.length_cons, mapTo_len f n xs]
theorem mapTo_get {α : Type} (f : α → α) (d : α) : ∀ (n : Nat) (l : List α), (mapTo f n l).getD n d = l.getD n d
 | 0, _ => rfl
 | _ + 1, [] => rfl
 | n + 1, _ :: xs => mapTo_get f d n xs
theorem mapTo_set {α : Type} (f : α → α) (d : α) : ∀ (n : Nat) (l : List α), n < l.length → (mapTo f n l).set n (f (l.getD n d)) = mapTo f (n + 1) l
 | 0, [], h => absurd h (by simp)
 | 0, x :: xs, _ => by cases xs <;> rfl
 | n + 1, [], h => absurd h (by simp)
 | n + 1, x :: xs, h => congrArg (f x :: ·) (mapTo_set f d n xs (by simpa using h))
theorem mapTo_all {α : Type} (f : α → α) : ∀ (n : Nat) (l : List α), l.length ≤ n → mapTo f n l = l.map f
 | 0, [], _ => rfl
 | 0, x :: xs, h => absurd h (by simp)
 | n + 1, [], _ => rfl
 | n + 1, x :: xs, h => congrArg (f x :: ·) (mapTo_all f n xs (by simpa using h))
end Go.AI
