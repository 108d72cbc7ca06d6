/- Texts of the proof, joined: DiskP. -/
import Derived.Test.YtcdajbmgoafnkaaQeG
namespace Go.AI
open Go
theorem getD_lt {α : Type} {l : List α} {i : Nat} {d : α} (h : i < l.length) : l.getD i d = l[i] := by simp [List.getD, h]
theorem drop_cons {α : Type} {l : List α} {i : Nat} (d : α) (h : i < l.length) : l.drop i = l.getD i d :: l.drop (i + 1) := by rw [List.drop_eq_getElem_cons h, getD_lt h]
theorem nat1 (i : Nat) : (i : Int) + 1 = ((i + 1 : Nat) : Int) := by omega
end Go.AI
