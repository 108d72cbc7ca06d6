/- Texts of the proof, joined: CipherT. Names of our own are shortened by program; the long ones stand in wip/. -/
import Derived.Test.YtnmidfcefljafaaGreatQpCipherP4
namespace Go.AI
open Go
theorem K0g {a b : List UInt8} (hl : a.length = b.length) (h : ∀ p, p < a.length → a.getD p 0 = b.getD p 0) : a = b := by
 apply List.ext_getElem hl
 intro i h1 h2
 have := h i h1
 rwa [Jj3 h1, Jj3 h2] at this
theorem Kuq (a k : UInt8) : J6p (J6p a k) k = a := by
 rw [Kmw, Kmw, UInt8.xor_assoc, UInt8.xor_self, UInt8.xor_zero]
theorem Kur (key : List UInt8) (n : Int) (b : List UInt8) : J0x key n (J0x key n b) = b := by
 have h1 := Joy key n b
 have h2 := Joy key n (J0x key n b)
 refine K0g (by omega) fun p hp => ?_
 rw [Kcy key n _ p (by omega), Kcy key n b p (by omega), Kuq]
theorem K0h (k : List UInt8) (n : Int) (b : List UInt8) (hk : 1 ≤ k.length ∧ k.length ≤ 64) (hn : inR n = true) (hb : b.length ≤ 65520) :
  Kl5 k n b = 0 ∧ (Kq5 k n b).length = b.length + 16 ∧ Kbs k n (Kq5 k n b) = 0 ∧ K5r k n (Kq5 k n b) = b := by
 have hu := Jww.2 hk
 have e : Kl5 k n b = 0 := by
  unfold Kl5; rw [if_pos hu, if_neg (by omega), if_pos hn]
 have hs := Joy (Kkz k) n b
 have ht := J2e (Jpz k) n (J0x (Kkz k) n b)
 have v : Kq5 k n b = J0x (Kkz k) n b ++ Kx2 (Jpz k) n (J0x (Kkz k) n b) := if_pos e
 have hl : (Kq5 k n b).length = b.length + 16 := by rw [v, List.length_append]; omega
 have t1 : (Kq5 k n b).take ((Kq5 k n b).length - 16) = J0x (Kkz k) n b := by
  rw [hl, v, List.take_append_of_le_length (by omega), List.take_of_length_le (by omega)]
 have t2 : (Kq5 k n b).drop ((Kq5 k n b).length - 16) = Kx2 (Jpz k) n (J0x (Kkz k) n b) := by
  rw [hl, v]; exact List.drop_left' (by omega)
 have e2 : Kbs k n (Kq5 k n b) = 0 := by
  unfold Kbs; rw [if_pos hu, if_neg (by omega), if_pos hn, if_neg (by omega), t1, t2, if_pos rfl]
 refine ⟨e, hl, e2, ?_⟩
 unfold K5r; rw [if_pos e2, t1, Kur]
end Go.AI
