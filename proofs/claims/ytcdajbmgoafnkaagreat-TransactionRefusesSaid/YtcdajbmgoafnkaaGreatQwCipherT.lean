/- Texts of the proof, joined: CipherT. Names of our own are shortened by program; the long ones stand in wip/. -/
import Derived.Test.YtcdajbmgoafnkaaGreatQwCipherP4
namespace Go.AI
open Go
theorem K65 {a b : List UInt8} (hl : a.length = b.length) (h : ∀ p, p < a.length → a.getD p 0 = b.getD p 0) : a = b := by
 apply List.ext_getElem hl
 intro i h1 h2
 have := h i h1
 rwa [Jjk h1, Jjk h2] at this
theorem K0q (a k : UInt8) : Jpj (Jpj a k) k = a := by
 rw [Kr8, Kr8, UInt8.xor_assoc, UInt8.xor_self, UInt8.xor_zero]
theorem K0r (key : List UInt8) (n : Int) (b : List UInt8) : Jxe key n (Jxe key n b) = b := by
 have h1 := Jih key n b
 have h2 := Jih key n (Jxe key n b)
 refine K65 (by omega) fun p hp => ?_
 rw [J45 key n _ p (by omega), J45 key n b p (by omega), K0q]
theorem Kmm (k : List UInt8) (n : Int) (b : List UInt8) (hk : 1 ≤ k.length ∧ k.length ≤ 64) (hn : inR n = true) (hb : b.length ≤ 65520) :
  Kji k n b = 0 ∧ (Kfn k n b).length = b.length + 16 ∧ J4o k n (Kfn k n b) = 0 ∧ K9o k n (Kfn k n b) = b := by
 have hu := Jii.2 hk
 have e : Kji k n b = 0 := by
  unfold Kji; rw [if_pos hu, if_neg (by omega), if_pos hn]
 have hs := Jih (Kjh k) n b
 have ht := Jus (Jn2 k) n (Jxe (Kjh k) n b)
 have v : Kfn k n b = Jxe (Kjh k) n b ++ K17 (Jn2 k) n (Jxe (Kjh k) n b) := if_pos e
 have hl : (Kfn k n b).length = b.length + 16 := by rw [v, List.length_append]; omega
 have t1 : (Kfn k n b).take ((Kfn k n b).length - 16) = Jxe (Kjh k) n b := by
  rw [hl, v, List.take_append_of_le_length (by omega), List.take_of_length_le (by omega)]
 have t2 : (Kfn k n b).drop ((Kfn k n b).length - 16) = K17 (Jn2 k) n (Jxe (Kjh k) n b) := by
  rw [hl, v]; exact List.drop_left' (by omega)
 have e2 : J4o k n (Kfn k n b) = 0 := by
  unfold J4o; rw [if_pos hu, if_neg (by omega), if_pos hn, if_neg (by omega), t1, t2, if_pos rfl]
 refine ⟨e, hl, e2, ?_⟩
 unfold K9o; rw [if_pos e2, t1, K0r]
end Go.AI
