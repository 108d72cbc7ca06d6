/- Texts of the proof, joined: CipherP4. Names of our own are shortened by program; the long ones stand in wip/. -/
import Derived.Test.YtcdajbmgoafnkaaGreatQvG
import Derived.Test.YtcdajbmgoafnkaaGreatQvCipherP3
namespace Go.AI
open Go
theorem J84 {X : Type} (F : Nat) (fail : X) (ex0 ex1 : List UInt8 → List UInt8 → Bool → Int → Int → X) (k : Bool → X) (a b : List UInt8) (hl : a.length = b.length) (ha : a.length ≤ 1000000000000)
  (h0 : ∀ x y z u, ex0 x y false z u = k false) (h1 : ∀ x y z u v, ex1 x y z u v = k true) : ∀ (j m i : Nat) (s4 : Bool), i + j = a.length → j < m →
  Jfi F fail ex0 ex1 m a b s4 (a.length : Nat) i = k (a.drop i == b.drop i)
 | 0, m + 1, i, s4, e1, e2 => by
  simp only [Jfi, Jj7]
  rw [Jab (ff (by omega)), h1, List.drop_eq_nil_of_le (by omega), List.drop_eq_nil_of_le (by omega)]; rfl
 | j + 1, m + 1, i, s4, e1, e2 => by
  simp only [Jfi, Jj7]
  have e3 : a.drop i = a.getD i 0 :: a.drop (i + 1) := by rw [List.drop_eq_getElem_cons (by omega), Jkb (by omega)]
  have e4 : b.drop i = b.getD i 0 :: b.drop (i + 1) := by rw [List.drop_eq_getElem_cons (by omega), Jkb (by omega)]
  rw [Jaa (tt (by omega)), Jaa (tt2 (by omega) (by omega)), Jaa (tt2 (by omega) (by omega)), Int.toNat_natCast, e3, e4]
  by_cases h : a.getD i 0 = b.getD i 0
  ·rw [Jab (Jf8 (by rw [h])), Jam (by omega) (by omega), h, List.cons_beq_cons, beq_self_eq_true, Bool.true_and]
   exact J84 F fail ex0 ex1 k a b hl ha h0 h1 j m (i + 1) s4 (by omega) (by omega)
  ·rw [Jaa (Jjj (fun e => h (UInt8.toNat_inj.1 (by omega)))), h0, List.cons_beq_cons, beq_eq_false_iff_ne.2 h, Bool.false_and]
theorem J0y (a b : List UInt8) (h : Jhe a b = true) : ∃ F, ∀ {X : Type} (fail : X) (ret : Bool → X), Jys F a b fail ret = ret (Jhf a b) := ⟨a.length + 1, fun fail ret => by
 simp only [Jhe, decide_eq_true_eq] at h
 unfold Jys Jhf
 by_cases hl : a.length = b.length
 ·rw [Jab (Jf8 (by omega))]
  exact J84 (a.length + 1) fail _ _ ret a b hl h.1 (fun _ _ _ _ => rfl) (fun _ _ _ _ _ => rfl) a.length _ 0 false (by omega) (by omega)
 ·rw [Jaa (Jjj (by omega))]
  have : (a == b) = false := by
   rw [beq_eq_false_iff_ne]
   rintro rfl; exact hl rfl
  rw [this]⟩
theorem Kmg (k : List UInt8) (h : Joe k = true) : ∃ F, ∀ {X : Type} (fail : X) (ret : List UInt8 → List UInt8 → X), K64 F k fail ret = ret (Jfn k) (Jgn k) := ⟨1, fun fail ret => by
 simp only [Joe, decide_eq_true_eq] at h
 unfold K64
 rw [Jaa (c := Jqp k _) (tt ⟨h, by simp⟩), Jaa (c := Jqp k _) (tt ⟨h, by simp⟩)]
 rfl⟩
theorem Kyn (n : Int) : (le8 n).length = 8 := J3y _ 8
theorem Kq6 (n : Int) (h0 : 0 ≤ n) (i : Nat) (hi : i < 8) : Kld (Kf5 n (Jl4 8 (i : Int))) = UInt8.ofNat (n.toNat / 2 ^ (8 * i) % 256) := by
 rw [show Jl4 8 (i : Int) = ((8 * i : Nat) : Int) by rw [Jji (by omega) (by omega)]; omega, Ka3 (by omega) (by omega), Klf, Int.toNat_natCast]
 obtain ⟨N, rfl⟩ : ∃ N : Nat, n = N := ⟨n.toNat, by omega⟩
 rw [Int.toNat_natCast, show (2 : Int) ^ (8 * i) = ((2 ^ (8 * i) : Nat) : Int) by push_cast; rfl, ← Int.natCast_ediv]
 generalize N / 2 ^ (8 * i) = q
 congr 1
theorem K5q {X : Type} (F : Nat) (fail : X) (ex : Int → List UInt8 → Int → List UInt8 → List UInt8 → X) (n : Int) (h0 : 0 ≤ n) (b key : List UInt8) : ∀ (j m i : Nat), i + j = 8 → j ≤ m →
  Jsi F fail ex (m + 1) n b i key (Kme n.toNat i) = ex n b (8 : Nat) key (le8 n)
 | 0, m, i, hi, _ => by
  have e : i = 8 := by omega
  subst e
  rw [Jsi, Kbm]
  rw [Jab (ff (by omega))]; rfl
 | j + 1, 0, i, _, hm => absurd hm (by omega)
 | j + 1, m + 1, i, hi, hm => by
  have ih := K5q F fail ex n h0 b key j m (i + 1) (by omega) (by omega)
  rw [Jsi, Kbm]
  simp only [Kq6 n h0 i (by omega), ← J83]
  rw [Jaa (tt (by omega)), Jaa (tt (by rw [Jji (by omega) (by omega)]; omega)), Jaa (Jem (by rw [J3y]; omega)), Jam (by omega) (by omega)]
  exact ih
theorem Ktb (key : List UInt8) (n : Int) (b : List UInt8) (h : Jz3 key n b = true) : ∃ F, ∀ {X : Type} (fail : X) (ret : List UInt8 → X), cTag F key n b fail ret = ret (Jz4 key n b) := ⟨99, fun fail ret => by
 simp only [Jz3, Bool.and_eq_true, decide_eq_true_eq] at h
 have hr := J3w.1 h.1
 have hl : (le8 n ++ b).length = 8 + b.length := by rw [List.length_append, Kyn]
 unfold cTag
 refine (K5q 99 fail _ n hr.1 b key 8 98 0 rfl (by omega)).trans ?_
 rw [List.take_of_length_le (show key.length ≤ 32 by omega), Jaa (Jem (by omega)), Jaa (c := Jqp key _) (tt (by omega))]
 rfl⟩
theorem K5r {X : Type} (F : Nat) (fail : X) (ex : Int → Int → List UInt8 → Int → List UInt8 → List UInt8 → List UInt8 → List UInt8 → List UInt8 → X) (n : Int) (h0 : 0 ≤ n) (k : List UInt8) (n' : Int) (b c key au : List UInt8) : ∀ (j m i : Nat), i + j = 8 → j ≤ m →
  Jnb F fail ex (m + 1) n i k n' b c key (Kme n.toNat i) au = ex n (8 : Nat) k n' b c key (le8 n) au
 | 0, m, i, hi, _ => by
  have e : i = 8 := by omega
  subst e
  rw [Jnb, J1y]
  rw [Jab (ff (by omega))]; rfl
 | j + 1, 0, i, _, hm => absurd hm (by omega)
 | j + 1, m + 1, i, hi, hm => by
  have ih := K5r F fail ex n h0 k n' b c key au j m (i + 1) (by omega) (by omega)
  rw [Jnb, J1y]
  simp only [Kq6 n h0 i (by omega), ← J83]
  rw [Jaa (tt (by omega)), Jaa (tt (by rw [Jji (by omega) (by omega)]; omega)), Jaa (Jem (by rw [J3y]; omega)), Jam (by omega) (by omega)]
  exact ih
theorem Kcm (k : List UInt8) : ∃ F, ∀ {X : Type} (fail : X) (ret : Bool → X), Klp F k fail ret = ret (Jla k) := ⟨1, fun fail ret => by
 unfold Klp Jla J6r
 by_cases h : (k.length : Int) ≥ 1
 ·rw [Jaa (tt h)]; congr 1
  by_cases c : (k.length : Int) ≤ 64
  ·rw [tt c, tt (by omega)]
  ·rw [ff c, ff (by omega)]
 ·rw [Jab (ff h), ff (by omega)]⟩
theorem J15 (k : List UInt8) : (Jpq k).length = 32 := Kq0 _ _
theorem Jsz (k : List UInt8) (n : Int) (b : List UInt8) : (Kw7 k n b).length = 16 := by
 unfold Kw7; rw [List.length_take, Kq0]; omega
theorem Ktc (k : List UInt8) (n : Int) (b : List UInt8) : (J6r k = false ∧ Ken k n b = 1) ∨ (J6r k = true ∧ (b.length : Int) > 65520 ∧ Ken k n b = 5) ∨ (J6r k = true ∧ ¬ (b.length : Int) > 65520 ∧ inR n = false ∧ Ken k n b = 2) ∨ (J6r k = true ∧ ¬ (b.length : Int) > 65520 ∧ inR n = true ∧ Ken k n b = 0) := by
 unfold Ken
 cases J6r k with
 | false => exact .inl ⟨rfl, rfl⟩
 | true =>
  by_cases h : (b.length : Int) > 65520
  ·exact .inr (.inl ⟨rfl, h, by rw [if_pos rfl, if_pos h]⟩)
  ·rw [if_pos rfl, if_neg h]
   cases inR n with
   | false => exact .inr (.inr (.inl ⟨rfl, h, rfl, rfl⟩))
   | true => exact .inr (.inr (.inr ⟨rfl, h, rfl, rfl⟩))
theorem Jw1 {k : List UInt8} : J6r k = true ↔ 1 ≤ k.length ∧ k.length ≤ 64 := by simp only [J6r, decide_eq_true_eq]
theorem K3s {n : Int} {b : List UInt8} (h : ¬ (b.length : Int) > 65536) (k : inR n = false) : K1w n b = 2 := by
 unfold K1w; rw [if_neg h, k]; rfl
theorem Kmh {n : Int} {b : List UInt8} (h : ¬ (b.length : Int) > 65536) (k : inR n = true) : K1w n b = 0 := by
 unfold K1w; rw [if_neg h, k]; rfl
theorem Kyo {key : List UInt8} {n : Int} {b : List UInt8} (h : ¬ (b.length : Int) > 65536) (k : inR n = true) : strV key n b = J0s key n b := if_pos (Kmh h k)
theorem Kmi (k : List UInt8) (n : Int) (b : List UInt8) (_ : Kbe k n b = true) : ∃ F, ∀ {X : Type} (fail : X) (ret : List UInt8 → Int → X), K65 F k n b fail ret = ret (Jof k n b) (Jsc k n b) := ⟨99, fun fail ret => by
 unfold K65 Jof Jsc Jla Kbc
 rcases Ktc k n b with ⟨h, e⟩ | ⟨h, h1, e⟩ | ⟨h, h1, h2, e⟩ | ⟨h, h1, h2, e⟩ <;> rw [e, h]
 ·rw [Jaa (c := !false) rfl, if_neg (by omega)]
 ·rw [Jab (c := !true) rfl, Jaa (tt h1), if_neg (by omega)]
 ·have hk := Jw1.1 h
  have es : Jgb (Jfn k) n b = 2 := K3s (by omega) h2
  rw [Jab (c := !true) rfl, Jab (ff h1), if_neg (by omega), Jaa (c := Joe k) (tt (by omega)), Jaa (c := Jk9 _ _ _) rfl, es, Jaa (Jjj (by omega))]
 ·have hk := Jw1.1 h
  have hr := J3w.1 h2
  have es : Jgb (Jfn k) n b = 0 := Kmh (by omega) h2
  have ev : Jik (Jfn k) n b = J0s (Kkd k) n b := Kyo (by omega) h2
  have hl : (J0s (Kkd k) n b).length = b.length := Jkd _ _ _
  rw [Jab (c := !true) rfl, Jab (ff h1), if_pos rfl, Jaa (c := Joe k) (tt (by omega)), Jaa (c := Jk9 _ _ _) rfl, es, Jab (Jf8 rfl), ev]
  refine (K5r 99 fail _ n hr.1 k n b _ _ _ 8 98 0 rfl (by omega)).trans ?_
  have hl2 : (le8 n ++ J0s (Kkd k) n b).length = 8 + b.length := by rw [List.length_append, Kyn, hl]
  rw [show Jgn k = Jpq k from rfl, List.take_of_length_le (show (Jpq k).length ≤ 32 by rw [J15]; omega), Jaa (Jem (by omega)), Jaa (c := Jqp (Jpq k) _) (tt (by rw [J15]; omega))]
  rw [show List.take 16 (Jz2 (Jpq k) (le8 n ++ J0s (Kkd k) n b)) = Kw7 (Jpq k) n (J0s (Kkd k) n b) from rfl, Jaa (Jem (by rw [List.length_append, Jsz, hl]; omega))]⟩
theorem Ktd (k : List UInt8) (n : Int) (b : List UInt8) : (J6r k = false ∧ Kbd k n b = 1) ∨ (J6r k = true ∧ (b.length : Int) > 65536 ∧ Kbd k n b = 5) ∨ (J6r k = true ∧ ¬ (b.length : Int) > 65536 ∧ inR n = false ∧ Kbd k n b = 2) ∨ (J6r k = true ∧ ¬ (b.length : Int) > 65536 ∧ inR n = true ∧ b.length < 16 ∧ Kbd k n b = 9) ∨
  (J6r k = true ∧ ¬ (b.length : Int) > 65536 ∧ inR n = true ∧ ¬ b.length < 16 ∧ Kw7 (Jpq k) n (b.take (b.length - 16)) ≠ b.drop (b.length - 16) ∧ Kbd k n b = 25) ∨
  (J6r k = true ∧ ¬ (b.length : Int) > 65536 ∧ inR n = true ∧ ¬ b.length < 16 ∧ Kw7 (Jpq k) n (b.take (b.length - 16)) = b.drop (b.length - 16) ∧ Kbd k n b = 0) := by
 unfold Kbd
 cases J6r k with
 | false => exact .inl ⟨rfl, rfl⟩
 | true =>
  by_cases h : (b.length : Int) > 65536
  ·exact .inr (.inl ⟨rfl, h, by rw [if_pos rfl, if_pos h]⟩)
  ·rw [if_pos rfl, if_neg h]
   cases inR n with
   | false => exact .inr (.inr (.inl ⟨rfl, h, rfl, rfl⟩))
   | true =>
    by_cases h1 : b.length < 16
    ·exact .inr (.inr (.inr (.inl ⟨rfl, h, rfl, h1, by rw [if_pos rfl, if_pos h1]⟩)))
    ·by_cases h2 : Kw7 (Jpq k) n (b.take (b.length - 16)) = b.drop (b.length - 16)
     ·exact .inr (.inr (.inr (.inr (.inr ⟨rfl, h, rfl, h1, h2, by rw [if_pos rfl, if_neg h1, if_pos h2]⟩))))
     ·exact .inr (.inr (.inr (.inr (.inl ⟨rfl, h, rfl, h1, h2, by rw [if_pos rfl, if_neg h1, if_neg h2]⟩))))
theorem Kmj (k : List UInt8) (n : Int) (b : List UInt8) (_ : Jyl k n b = true) : ∃ F, ∀ {X : Type} (fail : X) (ret : List UInt8 → Int → X), K66 F k n b fail ret = ret (Jh1 k n b) (Jjz k n b) := ⟨1, fun fail ret => by
 unfold K66 Jh1 Jjz Jla Jod K47
 have sub : Jb3 (b.length : Int) 16 = (b.length : Int) - 16 ∨ (b.length : Int) > 65536 := by
  by_cases h : (b.length : Int) > 65536
  ·exact .inr h
  ·exact .inl (Jdo (by omega) (by omega))
 rcases Ktd k n b with ⟨h, e⟩ | ⟨h, h1, e⟩ | ⟨h, h1, h2, e⟩ | ⟨h, h1, h2, h3, e⟩ | ⟨h, h1, h2, h3, h4, e⟩ | ⟨h, h1, h2, h3, h4, e⟩ <;> rw [e, h]
 ·rw [Jaa (c := !false) rfl, if_neg (by omega)]
 ·rw [Jab (c := !true) rfl, Jaa (tt h1), if_neg (by omega)]
 ·rw [Jab (c := !true) rfl, Jab (ff h1), h2, Jaa (c := !false) rfl, if_neg (by omega)]
 ·have hs := sub.resolve_right h1
  rw [Jab (c := !true) rfl, Jab (ff h1), h2, Jab (c := !true) rfl, hs, Jaa (tt (by omega)), if_neg (by omega)]
 ·have hk := Jw1.1 h
  have hs : Jb3 (b.length : Int) 16 = ((b.length - 16 : Nat) : Int) := by rw [sub.resolve_right h1]; omega
  have ht : Jhf (Jz4 (Jgn k) n (b.take (b.length - 16))) (b.drop (b.length - 16)) = false := beq_eq_false_iff_ne.2 h4
  rw [Jab (c := !true) rfl, Jab (ff h1), h2, Jab (c := !true) rfl, hs, Int.toNat_natCast, Jab (ff (by omega)), if_neg (by omega), Jaa (c := Joe k) (tt (by omega)), Jaa (tt2 (by omega) (by omega)), Jaa (c := Jz3 _ _ _) (by
   unfold Jz3; rw [h2, Bool.true_and]; exact tt ⟨J15 k, by rw [List.length_take]; omega⟩), Jaa (tt2 (by omega) (by omega)), Jaa (c := Jhe _ _) (tt ⟨by rw [show (Jz4 (Jgn k) n (b.take (b.length - 16))).length = 16 from Jsz _ _ _]; omega, by rw [List.length_drop]; omega⟩), ht, Jaa (c := !false) rfl]
 ·have hk := Jw1.1 h
  have hs : Jb3 (b.length : Int) 16 = ((b.length - 16 : Nat) : Int) := by rw [sub.resolve_right h1]; omega
  have ht : Jhf (Jz4 (Jgn k) n (b.take (b.length - 16))) (b.drop (b.length - 16)) = true := beq_iff_eq.2 h4
  have hl : ¬ ((b.take (b.length - 16)).length : Int) > 65536 := by rw [List.length_take]; omega
  rw [Jab (c := !true) rfl, Jab (ff h1), h2, Jab (c := !true) rfl, hs, Int.toNat_natCast, Jab (ff (by omega)), if_pos rfl, Jaa (c := Joe k) (tt (by omega)), Jaa (tt2 (by omega) (by omega)), Jaa (c := Jz3 _ _ _) (by
   unfold Jz3; rw [h2, Bool.true_and]; exact tt ⟨J15 k, by rw [List.length_take]; omega⟩), Jaa (tt2 (by omega) (by omega)), Jaa (c := Jhe _ _) (tt ⟨by rw [show (Jz4 (Jgn k) n (b.take (b.length - 16))).length = 16 from Jsz _ _ _]; omega, by rw [List.length_drop]; omega⟩), ht, Jab (c := !true) rfl, Jaa (tt2 (by omega) (by omega)), Jaa (c := Jk9 _ _ _) rfl]
  rw [show Jik (Jfn k) n (b.take (b.length - 16)) = J0s (Kkd k) n (b.take (b.length - 16)) from Kyo hl h2, show Jgb (Jfn k) n (b.take (b.length - 16)) = 0 from Kmh hl h2]⟩
end Go.AI
