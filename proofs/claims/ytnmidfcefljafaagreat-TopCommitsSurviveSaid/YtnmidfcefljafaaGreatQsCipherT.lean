/- Texts of the proof, joined: CipherT. Names of our own are shortened by program; the long ones stand in wip/. -/
import Derived.Test.YtnmidfcefljafaaGreatQsCipherP4
namespace Go.AI
open Go
theorem Kyh {a b : List UInt8} (hl : a.length = b.length) (h : ∀ p, p < a.length → a.getD p 0 = b.getD p 0) : a = b := by
 apply List.ext_getElem hl
 intro i h1 h2
 have := h i h1
 rwa [Jjt h1, Jjt h2] at this
theorem Ksv (a k : UInt8) : J5k (J5k a k) k = a := by
 rw [Klk, Klk, UInt8.xor_assoc, UInt8.xor_self, UInt8.xor_zero]
theorem Ksw (key : List UInt8) (n : Int) (b : List UInt8) : Jz6 key n (Jz6 key n b) = b := by
 have h1 := Jlz key n b
 have h2 := Jlz key n (Jz6 key n b)
 refine Kyh (by omega) fun p hp => ?_
 rw [Kbo key n _ p (by omega), Kbo key n b p (by omega), Ksv]
theorem Kyi (k : List UInt8) (n : Int) (b : List UInt8) (hk : 1 ≤ k.length ∧ k.length ≤ 64) (hn : inR n = true) (hb : b.length ≤ 65520) :
  Kku k n b = 0 ∧ (Kkv k n b).length = b.length + 16 ∧ Kai k n (Kkv k n b) = 0 ∧ K3s k n (Kkv k n b) = b := by
 have hu := Jwj.2 hk
 have e : Kku k n b = 0 := by
  unfold Kku; rw [if_pos hu, if_neg (by omega), if_pos hn]
 have hs := Jlz (Kjn k) n b
 have ht := Jwi (Jp7 k) n (Jz6 (Kjn k) n b)
 have v : Kkv k n b = Jz6 (Kjn k) n b ++ Kv7 (Jp7 k) n (Jz6 (Kjn k) n b) := if_pos e
 have hl : (Kkv k n b).length = b.length + 16 := by rw [v, List.length_append]; omega
 have t1 : (Kkv k n b).take ((Kkv k n b).length - 16) = Jz6 (Kjn k) n b := by
  rw [hl, v, List.take_append_of_le_length (by omega), List.take_of_length_le (by omega)]
 have t2 : (Kkv k n b).drop ((Kkv k n b).length - 16) = Kv7 (Jp7 k) n (Jz6 (Kjn k) n b) := by
  rw [hl, v]; exact List.drop_left' (by omega)
 have e2 : Kai k n (Kkv k n b) = 0 := by
  unfold Kai; rw [if_pos hu, if_neg (by omega), if_pos hn, if_neg (by omega), t1, t2, if_pos rfl]
 refine ⟨e, hl, e2, ?_⟩
 unfold K3s; rw [if_pos e2, t1, Ksw]
end Go.AI
