/- Texts of the proof, joined: CipherT. -/
import Derived.Test.YtnmidfcefljafaaGreatQtCipherP4
namespace Go.AI
open Go
theorem list_ext0 {a b : List UInt8} (hl : a.length = b.length) (h : ∀ p, p < a.length → a.getD p 0 = b.getD p 0) : a = b := by
 apply List.ext_getElem hl
 intro i h1 h2
 have := h i h1
 rwa [getD_ltd h1, getD_ltd h2] at this
theorem xorB_twice (a k : UInt8) : xorB (xorB a k) k = a := by
 rw [xorB_eq, xorB_eq, UInt8.xor_assoc, UInt8.xor_self, UInt8.xor_zero]
theorem strS_twice (key : List UInt8) (n : Int) (b : List UInt8) : strS key n (strS key n b) = b := by
 have h1 := strS_len key n b
 have h2 := strS_len key n (strS key n b)
 refine list_ext0 (by omega) fun p hp => ?_
 rw [strS_get key n _ p (by omega), strS_get key n b p (by omega), xorB_twice]
theorem strS_take (key : List UInt8) (n : Int) (b : List UInt8) (m : Nat) : strS key n (b.take m) = (strS key n b).take m := by
 have h1 := strS_len key n b
 have h2 := strS_len key n (b.take m)
 have h3 : (b.take m).length = min m b.length := List.length_take
 refine list_ext0 (by rw [List.length_take]; omega) fun p hp => ?_
 rw [strS_get key n _ p (by omega), getD_take _ _ _ _ (by omega), getD_take _ _ _ _ (by omega), strS_get key n b p (by omega)]
theorem seal_open (k : List UInt8) (n : Int) (b : List UInt8) (hk : 1 ≤ k.length ∧ k.length ≤ 64) (hn : inR n = true) (hb : b.length ≤ 65520) :
  seaE k n b = 0 ∧ (seaV k n b).length = b.length + 16 ∧ opeE k n (seaV k n b) = 0 ∧ opeV k n (seaV k n b) = b := by
 have hu := useK_iff.2 hk
 have e : seaE k n b = 0 := by
  unfold seaE; rw [if_pos hu, if_neg (by omega), if_pos hn]
 have hs := strS_len (key0 k) n b
 have ht := tagS_len (key1 k) n (strS (key0 k) n b)
 have v : seaV k n b = strS (key0 k) n b ++ tagS (key1 k) n (strS (key0 k) n b) := if_pos e
 have hl : (seaV k n b).length = b.length + 16 := by rw [v, List.length_append]; omega
 have t1 : (seaV k n b).take ((seaV k n b).length - 16) = strS (key0 k) n b := by
  rw [hl, v, List.take_append_of_le_length (by omega), List.take_of_length_le (by omega)]
 have t2 : (seaV k n b).drop ((seaV k n b).length - 16) = tagS (key1 k) n (strS (key0 k) n b) := by
  rw [hl, v]; exact List.drop_left' (by omega)
 have e2 : opeE k n (seaV k n b) = 0 := by
  unfold opeE; rw [if_pos hu, if_neg (by omega), if_pos hn, if_neg (by omega), t1, t2, if_pos rfl]
 refine ⟨e, hl, e2, ?_⟩
 unfold opeV; rw [if_pos e2, t1, strS_twice]
end Go.AI
