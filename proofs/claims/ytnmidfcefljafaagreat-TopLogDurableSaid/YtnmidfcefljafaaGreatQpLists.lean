/- Texts of the proof, joined: Lists. Names of our own are shortened by program; the long ones stand in wip/. -/
import Derived.Test.YtnmidfcefljafaaGreatQpWord
namespace Go.AI
open Go
def Kha {α : Type} (f : α → α) : Nat → List α → List α
 | 0, l => l
 | _ + 1, [] => []
 | n + 1, x :: xs => f x :: Kha f n xs
theorem Khb {α : Type} (f : α → α) : ∀ (n : Nat) (l : List α), (Kha f n l).length = l.length
 | 0, _ => rfl
 | _ + 1, [] => rfl
 | n + 1, x :: xs => by simp only [Kha, List.length_cons, Khb f n xs]
theorem Khc {α : Type} (f : α → α) (d : α) : ∀ (n : Nat) (l : List α), (Kha f n l).getD n d = l.getD n d
 | 0, _ => rfl
 | _ + 1, [] => rfl
 | n + 1, _ :: xs => Khc f d n xs
theorem Khd {α : Type} (f : α → α) (d : α) : ∀ (n : Nat) (l : List α), n < l.length → (Kha f n l).set n (f (l.getD n d)) = Kha f (n + 1) l
 | 0, [], h => absurd h (by simp)
 | 0, x :: xs, _ => by cases xs <;> rfl
 | n + 1, [], h => absurd h (by simp)
 | n + 1, x :: xs, h => congrArg (f x :: ·) (Khd f d n xs (by simpa using h))
theorem Khe {α : Type} (f : α → α) : ∀ (n : Nat) (l : List α), l.length ≤ n → Kha f n l = l.map f
 | 0, [], _ => rfl
 | 0, x :: xs, h => absurd h (by simp)
 | n + 1, [], _ => rfl
 | n + 1, x :: xs, h => congrArg (f x :: ·) (Khe f n xs (by simpa using h))
end Go.AI
