/- Texts of the proof, joined: Lists. Names of our own are shortened by program; the long ones stand in wip/. -/
import Derived.Test.YtcdajbmgoafnkaaGreatQrWord
namespace Go.AI
open Go
def Krv {α : Type} (f : α → α) : Nat → List α → List α
 | 0, l => l
 | _ + 1, [] => []
 | n + 1, x :: xs => f x :: Krv f n xs
theorem Krw {α : Type} (f : α → α) : ∀ (n : Nat) (l : List α), (Krv f n l).length = l.length
 | 0, _ => rfl
 | _ + 1, [] => rfl
 | n + 1, x :: xs => by simp only [Krv, List.length_cons, Krw f n xs]
theorem Krx {α : Type} (f : α → α) (d : α) : ∀ (n : Nat) (l : List α), (Krv f n l).getD n d = l.getD n d
 | 0, _ => rfl
 | _ + 1, [] => rfl
 | n + 1, _ :: xs => Krx f d n xs
theorem Kry {α : Type} (f : α → α) (d : α) : ∀ (n : Nat) (l : List α), n < l.length → (Krv f n l).set n (f (l.getD n d)) = Krv f (n + 1) l
 | 0, [], h => absurd h (by simp)
 | 0, x :: xs, _ => by cases xs <;> rfl
 | n + 1, [], h => absurd h (by simp)
 | n + 1, x :: xs, h => congrArg (f x :: ·) (Kry f d n xs (by simpa using h))
theorem Krz {α : Type} (f : α → α) : ∀ (n : Nat) (l : List α), l.length ≤ n → Krv f n l = l.map f
 | 0, [], _ => rfl
 | 0, x :: xs, h => absurd h (by simp)
 | n + 1, [], _ => rfl
 | n + 1, x :: xs, h => congrArg (f x :: ·) (Krz f n xs (by simpa using h))
end Go.AI
