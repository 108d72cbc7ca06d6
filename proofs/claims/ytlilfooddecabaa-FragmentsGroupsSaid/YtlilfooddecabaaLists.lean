/- Lists that are changed in place, one element behind the other. -/
import Derived.Test.YtlilfooddecabaaWord
namespace Go.AI
open Go

theorem byte_ex (b : UInt8) : ∃ i, i < 256 ∧ b = UInt8.ofNat i := ⟨b.toNat, b.toNat_lt, by simp⟩
/-- The first n elements are changed. -/
def mapTo {α : Type} (f : α → α) : Nat → List α → List α
  | 0, l => l
  | _ + 1, [] => []
  | n + 1, x :: xs => f x :: mapTo f n xs
theorem mapTo_len {α : Type} (f : α → α) : ∀ (n : Nat) (l : List α), (mapTo f n l).length = l.length
  | 0, _ => rfl
  | _ + 1, [] => rfl
  | n + 1, x :: xs => by simp only [mapTo, List.length_cons, mapTo_len f n xs]
theorem mapTo_get {α : Type} (f : α → α) (d : α) : ∀ (n : Nat) (l : List α), (mapTo f n l).getD n d = l.getD n d
  | 0, _ => rfl
  | _ + 1, [] => rfl
  | n + 1, _ :: xs => mapTo_get f d n xs
theorem mapTo_set {α : Type} (f : α → α) (d : α) : ∀ (n : Nat) (l : List α), n < l.length → (mapTo f n l).set n (f (l.getD n d)) = mapTo f (n + 1) l
  | 0, [], h => absurd h (by simp)
  | 0, x :: xs, _ => by cases xs <;> rfl
  | n + 1, [], h => absurd h (by simp)
  | n + 1, x :: xs, h => congrArg (f x :: ·) (mapTo_set f d n xs (by simpa using h))
theorem mapTo_all {α : Type} (f : α → α) : ∀ (n : Nat) (l : List α), l.length ≤ n → mapTo f n l = l.map f
  | 0, [], _ => rfl
  | 0, x :: xs, h => absurd h (by simp)
  | n + 1, [], _ => rfl
  | n + 1, x :: xs, h => congrArg (f x :: ·) (mapTo_all f n xs (by simpa using h))
/-- The first n elements are joined with those of another list. -/
def zipTo {α β : Type} (f : α → β → α) : Nat → List α → List β → List α
  | 0, l, _ => l
  | _ + 1, [], _ => []
  | _ + 1, x :: xs, [] => x :: xs
  | n + 1, x :: xs, y :: ys => f x y :: zipTo f n xs ys
theorem zipTo_len {α β : Type} (f : α → β → α) : ∀ (n : Nat) (l : List α) (m : List β), (zipTo f n l m).length = l.length
  | 0, _, _ => rfl
  | _ + 1, [], _ => rfl
  | _ + 1, _ :: _, [] => rfl
  | n + 1, x :: xs, y :: ys => by simp only [zipTo, List.length_cons, zipTo_len f n xs ys]
theorem zipTo_get {α β : Type} (f : α → β → α) (d : α) : ∀ (n : Nat) (l : List α) (m : List β), (zipTo f n l m).getD n d = l.getD n d
  | 0, _, _ => rfl
  | _ + 1, [], _ => rfl
  | _ + 1, _ :: _, [] => rfl
  | n + 1, _ :: xs, _ :: ys => zipTo_get f d n xs ys
theorem zipTo_set {α β : Type} (f : α → β → α) (d : α) (e : β) : ∀ (n : Nat) (l : List α) (m : List β), n < l.length → n < m.length → (zipTo f n l m).set n (f (l.getD n d) (m.getD n e)) = zipTo f (n + 1) l m
  | _, [], _, h, _ => absurd h (by simp)
  | _, _ :: _, [], _, h => absurd h (by simp)
  | 0, x :: xs, y :: ys, _, _ => by cases xs <;> rfl
  | n + 1, x :: xs, y :: ys, h, k => congrArg (f x y :: ·) (zipTo_set f d e n xs ys (by simpa using h) (by simpa using k))
theorem zipTo_all {α β : Type} (f : α → β → α) : ∀ (n : Nat) (l : List α) (m : List β), l.length ≤ n → m.length = l.length → zipTo f n l m = List.zipWith f l m
  | 0, [], [], _, _ => rfl
  | 0, _ :: _, _, h, _ => absurd h (by simp)
  | 0, [], _ :: _, _, h => absurd h (by simp)
  | n + 1, [], [], _, _ => rfl
  | n + 1, [], _ :: _, _, h => absurd h (by simp)
  | n + 1, _ :: _, [], _, h => absurd h (by simp)
  | n + 1, x :: xs, y :: ys, h, k => congrArg (f x y :: ·) (zipTo_all f n xs ys (by simpa using h) (by simpa using k))
theorem ite_bool {X : Type} (c : Bool) (a b : X) : (bif c then a else b) = if c = true then a else b := by cases c <;> rfl
theorem beqL_eq {α : Type} {f : α → α → Bool} (hf : ∀ a, f a a = true) : ∀ (l : List α), beqL f l l = true
  | [] => rfl
  | x :: xs => by show (f x x && beqL f xs xs) = true; rw [hf x, beqL_eq hf xs]; rfl
theorem beqL_iff {α : Type} {f : α → α → Bool} (hf : ∀ a b, f a b = true ↔ a = b) : ∀ (l m : List α), beqL f l m = true ↔ l = m
  | [], [] => ⟨fun _ => rfl, fun _ => rfl⟩
  | [], _ :: _ => ⟨fun h => (nomatch h), fun h => (nomatch h)⟩
  | _ :: _, [] => ⟨fun h => (nomatch h), fun h => (nomatch h)⟩
  | x :: xs, y :: ys => by
    show (f x y && beqL f xs ys) = true ↔ _
    rw [Bool.and_eq_true, hf, beqL_iff hf xs ys]
    constructor
    · rintro ⟨rfl, rfl⟩; rfl
    · intro h; cases h; exact ⟨rfl, rfl⟩
theorem beqT_u8 (n : Nat) (l m : List UInt8) : beqT (.arr n (.int .u8)) l m = decide (l = m) := by
  have h := beqL_iff (f := beqT (.int .u8)) (fun a b => by show ((a.toNat : Int) == (b.toNat : Int)) = true ↔ a = b; rw [beq_iff_eq, Int.natCast_inj, UInt8.toNat_inj]) l m
  by_cases e : l = m
  · rw [decide_eq_true e]; exact h.2 e
  · rw [decide_eq_false e]
    exact Bool.eq_false_iff.2 fun k => e (h.1 k)
theorem beqT_u32 (n : Nat) (l m : List UInt32) : beqT (.arr n (.int .u32)) l m = decide (l = m) := by
  have h := beqL_iff (f := beqT (.int .u32)) (fun a b => by show ((a.toNat : Int) == (b.toNat : Int)) = true ↔ a = b; rw [beq_iff_eq, Int.natCast_inj, UInt32.toNat_inj]) l m
  by_cases e : l = m
  · rw [decide_eq_true e]; exact h.2 e
  · rw [decide_eq_false e]
    exact Bool.eq_false_iff.2 fun k => e (h.1 k)
end Go.AI
