/- Texts of the proof, joined: CipherP4. Names of our own are shortened by program; the long ones stand in wip/. -/
import Derived.Test.YtnmidfcefljafaaGreatQpG
import Derived.Test.YtnmidfcefljafaaGreatQpCipherP3
namespace Go.AI
open Go
theorem J9h {X : Type} (F : Nat) (fail : X) (ex0 ex1 : List UInt8 → List UInt8 → Bool → Int → Int → X) (k : Bool → X) (a b : List UInt8) (hl : a.length = b.length) (ha : a.length ≤ 1000000000000)
  (h0 : ∀ x y z u, ex0 x y false z u = k false) (h1 : ∀ x y z u v, ex1 x y z u v = k true) : ∀ (j m i : Nat) (s4 : Bool), i + j = a.length → j < m →
  Jfa F fail ex0 ex1 m a b s4 (a.length : Nat) i = k (a.drop i == b.drop i)
 | 0, m + 1, i, s4, e1, e2 => by
  simp only [Jfa, Jj0]
  rw [Jab (ff (by omega)), h1, List.drop_eq_nil_of_le (by omega), List.drop_eq_nil_of_le (by omega)]; rfl
 | j + 1, m + 1, i, s4, e1, e2 => by
  simp only [Jfa, Jj0]
  have e3 : a.drop i = a.getD i 0 :: a.drop (i + 1) := by rw [List.drop_eq_getElem_cons (by omega), Jj3 (by omega)]
  have e4 : b.drop i = b.getD i 0 :: b.drop (i + 1) := by rw [List.drop_eq_getElem_cons (by omega), Jj3 (by omega)]
  rw [Jaa (tt (by omega)), Jaa (tt2 (by omega) (by omega)), Jaa (tt2 (by omega) (by omega)), Int.toNat_natCast, e3, e4]
  by_cases h : a.getD i 0 = b.getD i 0
  ·rw [Jab (Jgi (by rw [h])), Jao (by omega) (by omega), h, List.cons_beq_cons, beq_self_eq_true, Bool.true_and]
   exact J9h F fail ex0 ex1 k a b hl ha h0 h1 j m (i + 1) s4 (by omega) (by omega)
  ·rw [Jaa (Jh9 (fun e => h (UInt8.toNat_inj.1 (by omega)))), h0, List.cons_beq_cons, beq_eq_false_iff_ne.2 h, Bool.false_and]
theorem J03 (a b : List UInt8) (h : Jg4 a b = true) : ∃ F, ∀ {X : Type} (fail : X) (ret : Bool → X), Jyo F a b fail ret = ret (Jg5 a b) := ⟨a.length + 1, fun fail ret => by
 simp only [Jg4, decide_eq_true_eq] at h
 unfold Jyo Jg5
 by_cases hl : a.length = b.length
 ·rw [Jab (Jgi (by omega))]
  exact J9h (a.length + 1) fail _ _ ret a b hl h.1 (fun _ _ _ _ => rfl) (fun _ _ _ _ _ => rfl) a.length _ 0 false (by omega) (by omega)
 ·rw [Jaa (Jh9 (by omega))]
  have : (a == b) = false := by
   rw [beq_eq_false_iff_ne]
   rintro rfl; exact hl rfl
  rw [this]⟩
theorem Km5 (k : List UInt8) (h : Jn9 k = true) : ∃ F, ∀ {X : Type} (fail : X) (ret : List UInt8 → List UInt8 → X), K7m F k fail ret = ret (Jfd k) (Jgb k) := ⟨1, fun fail ret => by
 simp only [Jn9, decide_eq_true_eq] at h
 unfold K7m
 rw [Jaa (c := Jqj k _) (tt ⟨h, by simp⟩), Jaa (c := Jqj k _) (tt ⟨h, by simp⟩)]
 rfl⟩
theorem Kzk (n : Int) : (le8 n).length = 8 := J39 _ 8
theorem Kr1 (n : Int) (h0 : 0 ≤ n) (i : Nat) (hi : i < 8) : Klz (Kgm n (Jlu 8 (i : Int))) = UInt8.ofNat (n.toNat / 2 ^ (8 * i) % 256) := by
 rw [show Jlu 8 (i : Int) = ((8 * i : Nat) : Int) by rw [Jja (by omega) (by omega)]; omega, Kbj (by omega) (by omega), Kl1, Int.toNat_natCast]
 obtain ⟨N, rfl⟩ : ∃ N : Nat, n = N := ⟨n.toNat, by omega⟩
 rw [Int.toNat_natCast, show (2 : Int) ^ (8 * i) = ((2 ^ (8 * i) : Nat) : Int) by push_cast; rfl, ← Int.natCast_ediv]
 generalize N / 2 ^ (8 * i) = q
 congr 1
theorem K55 {X : Type} (F : Nat) (fail : X) (ex : Int → List UInt8 → Int → List UInt8 → List UInt8 → X) (n : Int) (h0 : 0 ≤ n) (b key : List UInt8) : ∀ (j m i : Nat), i + j = 8 → j ≤ m →
  Jsd F fail ex (m + 1) n b i key (Km3 n.toNat i) = ex n b (8 : Nat) key (le8 n)
 | 0, m, i, hi, _ => by
  have e : i = 8 := by omega
  subst e
  rw [Jsd, Kb2]
  rw [Jab (ff (by omega))]; rfl
 | j + 1, 0, i, _, hm => absurd hm (by omega)
 | j + 1, m + 1, i, hi, hm => by
  have ih := K55 F fail ex n h0 b key j m (i + 1) (by omega) (by omega)
  rw [Jsd, Kb2]
  simp only [Kr1 n h0 i (by omega), ← J9g]
  rw [Jaa (tt (by omega)), Jaa (tt (by rw [Jja (by omega) (by omega)]; omega)), Jaa (Jea (by rw [J39]; omega)), Jao (by omega) (by omega)]
  exact ih
theorem Kua (key : List UInt8) (n : Int) (b : List UInt8) (h : Jz4 key n b = true) : ∃ F, ∀ {X : Type} (fail : X) (ret : List UInt8 → X), cTag F key n b fail ret = ret (Jz5 key n b) := ⟨99, fun fail ret => by
 simp only [Jz4, Bool.and_eq_true, decide_eq_true_eq] at h
 have hr := Kcv.1 h.1
 have hl : (le8 n ++ b).length = 8 + b.length := by rw [List.length_append, Kzk]
 unfold cTag
 refine (K55 99 fail _ n hr.1 b key 8 98 0 rfl (by omega)).trans ?_
 rw [List.take_of_length_le (show key.length ≤ 32 by omega), Jaa (Jea (by omega)), Jaa (c := Jqj key _) (tt (by omega))]
 rfl⟩
theorem K56 {X : Type} (F : Nat) (fail : X) (ex : Int → Int → List UInt8 → Int → List UInt8 → List UInt8 → List UInt8 → List UInt8 → List UInt8 → X) (n : Int) (h0 : 0 ≤ n) (k : List UInt8) (n' : Int) (b c key au : List UInt8) : ∀ (j m i : Nat), i + j = 8 → j ≤ m →
  Jm5 F fail ex (m + 1) n i k n' b c key (Km3 n.toNat i) au = ex n (8 : Nat) k n' b c key (le8 n) au
 | 0, m, i, hi, _ => by
  have e : i = 8 := by omega
  subst e
  rw [Jm5, J16]
  rw [Jab (ff (by omega))]; rfl
 | j + 1, 0, i, _, hm => absurd hm (by omega)
 | j + 1, m + 1, i, hi, hm => by
  have ih := K56 F fail ex n h0 k n' b c key au j m (i + 1) (by omega) (by omega)
  rw [Jm5, J16]
  simp only [Kr1 n h0 i (by omega), ← J9g]
  rw [Jaa (tt (by omega)), Jaa (tt (by rw [Jja (by omega) (by omega)]; omega)), Jaa (Jea (by rw [J39]; omega)), Jao (by omega) (by omega)]
  exact ih
theorem Kc1 (k : List UInt8) : ∃ F, ∀ {X : Type} (fail : X) (ret : Bool → X), Kmc F k fail ret = ret (Jk1 k) := ⟨1, fun fail ret => by
 unfold Kmc Jk1 J61
 by_cases h : (k.length : Int) ≥ 1
 ·rw [Jaa (tt h)]; congr 1
  by_cases c : (k.length : Int) ≤ 64
  ·rw [tt c, tt (by omega)]
  ·rw [ff c, ff (by omega)]
 ·rw [Jab (ff h), ff (by omega)]⟩
theorem J2d (k : List UInt8) : (Jpz k).length = 32 := Krv _ _
theorem J2e (k : List UInt8) (n : Int) (b : List UInt8) : (Kx2 k n b).length = 16 := by
 unfold Kx2; rw [List.length_take, Krv]; omega
theorem Kub (k : List UInt8) (n : Int) (b : List UInt8) : (J61 k = false ∧ Kl5 k n b = 1) ∨ (J61 k = true ∧ (b.length : Int) > 65520 ∧ Kl5 k n b = 5) ∨ (J61 k = true ∧ ¬ (b.length : Int) > 65520 ∧ inR n = false ∧ Kl5 k n b = 2) ∨ (J61 k = true ∧ ¬ (b.length : Int) > 65520 ∧ inR n = true ∧ Kl5 k n b = 0) := by
 unfold Kl5
 cases J61 k with
 | false => exact .inl ⟨rfl, rfl⟩
 | true =>
  by_cases h : (b.length : Int) > 65520
  ·exact .inr (.inl ⟨rfl, h, by rw [if_pos rfl, if_pos h]⟩)
  ·rw [if_pos rfl, if_neg h]
   cases inR n with
   | false => exact .inr (.inr (.inl ⟨rfl, h, rfl, rfl⟩))
   | true => exact .inr (.inr (.inr ⟨rfl, h, rfl, rfl⟩))
theorem Jww {k : List UInt8} : J61 k = true ↔ 1 ≤ k.length ∧ k.length ≤ 64 := by simp only [J61, decide_eq_true_eq]
theorem K4f {n : Int} {b : List UInt8} (h : ¬ (b.length : Int) > 65536) (k : inR n = false) : K2i n b = 2 := by
 unfold K2i; rw [if_neg h, k]; rfl
theorem Km6 {n : Int} {b : List UInt8} (h : ¬ (b.length : Int) > 65536) (k : inR n = true) : K2i n b = 0 := by
 unfold K2i; rw [if_neg h, k]; rfl
theorem Kzl {key : List UInt8} {n : Int} {b : List UInt8} (h : ¬ (b.length : Int) > 65536) (k : inR n = true) : strV key n b = J0x key n b := if_pos (Km6 h k)
theorem Km7 (k : List UInt8) (n : Int) (b : List UInt8) (_ : Kbt k n b = true) : ∃ F, ∀ {X : Type} (fail : X) (ret : List UInt8 → Int → X), K7n F k n b fail ret = ret (Joa k n b) (Jr6 k n b) := ⟨99, fun fail ret => by
 unfold K7n Joa Jr6 Jk1 Kq5
 rcases Kub k n b with ⟨h, e⟩ | ⟨h, h1, e⟩ | ⟨h, h1, h2, e⟩ | ⟨h, h1, h2, e⟩ <;> rw [e, h]
 ·rw [Jaa (c := !false) rfl, if_neg (by omega)]
 ·rw [Jab (c := !true) rfl, Jaa (tt h1), if_neg (by omega)]
 ·have hk := Jww.1 h
  have es : Jf0 (Jfd k) n b = 2 := K4f (by omega) h2
  rw [Jab (c := !true) rfl, Jab (ff h1), if_neg (by omega), Jaa (c := Jn9 k) (tt (by omega)), Jaa (c := Jk0 _ _ _) rfl, es, Jaa (Jh9 (by omega))]
 ·have hk := Jww.1 h
  have hr := Kcv.1 h2
  have es : Jf0 (Jfd k) n b = 0 := Km6 (by omega) h2
  have ev : Jid (Jfd k) n b = J0x (Kkz k) n b := Kzl (by omega) h2
  have hl : (J0x (Kkz k) n b).length = b.length := Joy _ _ _
  rw [Jab (c := !true) rfl, Jab (ff h1), if_pos rfl, Jaa (c := Jn9 k) (tt (by omega)), Jaa (c := Jk0 _ _ _) rfl, es, Jab (Jgi rfl), ev]
  refine (K56 99 fail _ n hr.1 k n b _ _ _ 8 98 0 rfl (by omega)).trans ?_
  have hl2 : (le8 n ++ J0x (Kkz k) n b).length = 8 + b.length := by rw [List.length_append, Kzk, hl]
  rw [show Jgb k = Jpz k from rfl, List.take_of_length_le (show (Jpz k).length ≤ 32 by rw [J2d]; omega), Jaa (Jea (by omega)), Jaa (c := Jqj (Jpz k) _) (tt (by rw [J2d]; omega))]
  rw [show List.take 16 (Jz3 (Jpz k) (le8 n ++ J0x (Kkz k) n b)) = Kx2 (Jpz k) n (J0x (Kkz k) n b) from rfl, Jaa (Jea (by rw [List.length_append, J2e, hl]; omega))]⟩
theorem Kuc (k : List UInt8) (n : Int) (b : List UInt8) : (J61 k = false ∧ Kbs k n b = 1) ∨ (J61 k = true ∧ (b.length : Int) > 65536 ∧ Kbs k n b = 5) ∨ (J61 k = true ∧ ¬ (b.length : Int) > 65536 ∧ inR n = false ∧ Kbs k n b = 2) ∨ (J61 k = true ∧ ¬ (b.length : Int) > 65536 ∧ inR n = true ∧ b.length < 16 ∧ Kbs k n b = 9) ∨
  (J61 k = true ∧ ¬ (b.length : Int) > 65536 ∧ inR n = true ∧ ¬ b.length < 16 ∧ Kx2 (Jpz k) n (b.take (b.length - 16)) ≠ b.drop (b.length - 16) ∧ Kbs k n b = 25) ∨
  (J61 k = true ∧ ¬ (b.length : Int) > 65536 ∧ inR n = true ∧ ¬ b.length < 16 ∧ Kx2 (Jpz k) n (b.take (b.length - 16)) = b.drop (b.length - 16) ∧ Kbs k n b = 0) := by
 unfold Kbs
 cases J61 k with
 | false => exact .inl ⟨rfl, rfl⟩
 | true =>
  by_cases h : (b.length : Int) > 65536
  ·exact .inr (.inl ⟨rfl, h, by rw [if_pos rfl, if_pos h]⟩)
  ·rw [if_pos rfl, if_neg h]
   cases inR n with
   | false => exact .inr (.inr (.inl ⟨rfl, h, rfl, rfl⟩))
   | true =>
    by_cases h1 : b.length < 16
    ·exact .inr (.inr (.inr (.inl ⟨rfl, h, rfl, h1, by rw [if_pos rfl, if_pos h1]⟩)))
    ·by_cases h2 : Kx2 (Jpz k) n (b.take (b.length - 16)) = b.drop (b.length - 16)
     ·exact .inr (.inr (.inr (.inr (.inr ⟨rfl, h, rfl, h1, h2, by rw [if_pos rfl, if_neg h1, if_pos h2]⟩))))
     ·exact .inr (.inr (.inr (.inr (.inl ⟨rfl, h, rfl, h1, h2, by rw [if_pos rfl, if_neg h1, if_neg h2]⟩))))
theorem Km8 (k : List UInt8) (n : Int) (b : List UInt8) (_ : Jyg k n b = true) : ∃ F, ∀ {X : Type} (fail : X) (ret : List UInt8 → Int → X), K7o F k n b fail ret = ret (Jhq k n b) (Jjr k n b) := ⟨1, fun fail ret => by
 unfold K7o Jhq Jjr Jk1 Jn8 K5r
 have sub : Jdo (b.length : Int) 16 = (b.length : Int) - 16 ∨ (b.length : Int) > 65536 := by
  by_cases h : (b.length : Int) > 65536
  ·exact .inr h
  ·exact .inl (Jdk (by omega) (by omega))
 rcases Kuc k n b with ⟨h, e⟩ | ⟨h, h1, e⟩ | ⟨h, h1, h2, e⟩ | ⟨h, h1, h2, h3, e⟩ | ⟨h, h1, h2, h3, h4, e⟩ | ⟨h, h1, h2, h3, h4, e⟩ <;> rw [e, h]
 ·rw [Jaa (c := !false) rfl, if_neg (by omega)]
 ·rw [Jab (c := !true) rfl, Jaa (tt h1), if_neg (by omega)]
 ·rw [Jab (c := !true) rfl, Jab (ff h1), h2, Jaa (c := !false) rfl, if_neg (by omega)]
 ·have hs := sub.resolve_right h1
  rw [Jab (c := !true) rfl, Jab (ff h1), h2, Jab (c := !true) rfl, hs, Jaa (tt (by omega)), if_neg (by omega)]
 ·have hk := Jww.1 h
  have hs : Jdo (b.length : Int) 16 = ((b.length - 16 : Nat) : Int) := by rw [sub.resolve_right h1]; omega
  have ht : Jg5 (Jz5 (Jgb k) n (b.take (b.length - 16))) (b.drop (b.length - 16)) = false := beq_eq_false_iff_ne.2 h4
  rw [Jab (c := !true) rfl, Jab (ff h1), h2, Jab (c := !true) rfl, hs, Int.toNat_natCast, Jab (ff (by omega)), if_neg (by omega), Jaa (c := Jn9 k) (tt (by omega)), Jaa (tt2 (by omega) (by omega)), Jaa (c := Jz4 _ _ _) (by
   unfold Jz4; rw [h2, Bool.true_and]; exact tt ⟨J2d k, by rw [List.length_take]; omega⟩), Jaa (tt2 (by omega) (by omega)), Jaa (c := Jg4 _ _) (tt ⟨by rw [show (Jz5 (Jgb k) n (b.take (b.length - 16))).length = 16 from J2e _ _ _]; omega, by rw [List.length_drop]; omega⟩), ht, Jaa (c := !false) rfl]
 ·have hk := Jww.1 h
  have hs : Jdo (b.length : Int) 16 = ((b.length - 16 : Nat) : Int) := by rw [sub.resolve_right h1]; omega
  have ht : Jg5 (Jz5 (Jgb k) n (b.take (b.length - 16))) (b.drop (b.length - 16)) = true := beq_iff_eq.2 h4
  have hl : ¬ ((b.take (b.length - 16)).length : Int) > 65536 := by rw [List.length_take]; omega
  rw [Jab (c := !true) rfl, Jab (ff h1), h2, Jab (c := !true) rfl, hs, Int.toNat_natCast, Jab (ff (by omega)), if_pos rfl, Jaa (c := Jn9 k) (tt (by omega)), Jaa (tt2 (by omega) (by omega)), Jaa (c := Jz4 _ _ _) (by
   unfold Jz4; rw [h2, Bool.true_and]; exact tt ⟨J2d k, by rw [List.length_take]; omega⟩), Jaa (tt2 (by omega) (by omega)), Jaa (c := Jg4 _ _) (tt ⟨by rw [show (Jz5 (Jgb k) n (b.take (b.length - 16))).length = 16 from J2e _ _ _]; omega, by rw [List.length_drop]; omega⟩), ht, Jab (c := !true) rfl, Jaa (tt2 (by omega) (by omega)), Jaa (c := Jk0 _ _ _) rfl]
  rw [show Jid (Jfd k) n (b.take (b.length - 16)) = J0x (Kkz k) n (b.take (b.length - 16)) from Kzl hl h2, show Jf0 (Jfd k) n (b.take (b.length - 16)) = 0 from Km6 hl h2]⟩
end Go.AI
