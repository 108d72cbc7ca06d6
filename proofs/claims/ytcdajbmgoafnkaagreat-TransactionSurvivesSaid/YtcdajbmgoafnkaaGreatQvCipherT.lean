/- Texts of the proof, joined: CipherT. Names of our own are shortened by program; the long ones stand in wip/. -/
import Derived.Test.YtcdajbmgoafnkaaGreatQvCipherP4
namespace Go.AI
open Go
theorem Kzk {a b : List UInt8} (hl : a.length = b.length) (h : ∀ p, p < a.length → a.getD p 0 = b.getD p 0) : a = b := by
 apply List.ext_getElem hl
 intro i h1 h2
 have := h i h1
 rwa [Jkb h1, Jkb h2] at this
theorem Kts (a k : UInt8) : J6f (J6f a k) k = a := by
 rw [Kl7, Kl7, UInt8.xor_assoc, UInt8.xor_self, UInt8.xor_zero]
theorem Ktt (key : List UInt8) (n : Int) (b : List UInt8) : J0s key n (J0s key n b) = b := by
 have h1 := Jkd key n b
 have h2 := Jkd key n (J0s key n b)
 refine Kzk (by omega) fun p hp => ?_
 rw [Kcj key n _ p (by omega), Kcj key n b p (by omega), Kts]
theorem Kzl (k : List UInt8) (n : Int) (b : List UInt8) (hk : 1 ≤ k.length ∧ k.length ≤ 64) (hn : inR n = true) (hb : b.length ≤ 65520) :
  Ken k n b = 0 ∧ (Kbc k n b).length = b.length + 16 ∧ Kbd k n (Kbc k n b) = 0 ∧ K47 k n (Kbc k n b) = b := by
 have hu := Jw1.2 hk
 have e : Ken k n b = 0 := by
  unfold Ken; rw [if_pos hu, if_neg (by omega), if_pos hn]
 have hs := Jkd (Kkd k) n b
 have ht := Jsz (Jpq k) n (J0s (Kkd k) n b)
 have v : Kbc k n b = J0s (Kkd k) n b ++ Kw7 (Jpq k) n (J0s (Kkd k) n b) := if_pos e
 have hl : (Kbc k n b).length = b.length + 16 := by rw [v, List.length_append]; omega
 have t1 : (Kbc k n b).take ((Kbc k n b).length - 16) = J0s (Kkd k) n b := by
  rw [hl, v, List.take_append_of_le_length (by omega), List.take_of_length_le (by omega)]
 have t2 : (Kbc k n b).drop ((Kbc k n b).length - 16) = Kw7 (Jpq k) n (J0s (Kkd k) n b) := by
  rw [hl, v]; exact List.drop_left' (by omega)
 have e2 : Kbd k n (Kbc k n b) = 0 := by
  unfold Kbd; rw [if_pos hu, if_neg (by omega), if_pos hn, if_neg (by omega), t1, t2, if_pos rfl]
 refine ⟨e, hl, e2, ?_⟩
 unfold K47; rw [if_pos e2, t1, Ktt]
end Go.AI
