/- Texts of the proof, joined: CipherP4. Names of our own are shortened by program; the long ones stand in wip/. -/
import Derived.Test.YtnmidfcefljafaaGreatQsG
import Derived.Test.YtnmidfcefljafaaGreatQsCipherP3
namespace Go.AI
open Go
theorem J79 {X : Type} (F : Nat) (fail : X) (ex0 ex1 : List UInt8 → List UInt8 → Bool → Int → Int → X) (k : Bool → X) (a b : List UInt8) (hl : a.length = b.length) (ha : a.length ≤ 1000000000000)
  (h0 : ∀ x y z u, ex0 x y false z u = k false) (h1 : ∀ x y z u v, ex1 x y z u v = k true) : ∀ (j m i : Nat) (s4 : Bool), i + j = a.length → j < m →
  Je5 F fail ex0 ex1 m a b s4 (a.length : Nat) i = k (a.drop i == b.drop i)
 | 0, m + 1, i, s4, e1, e2 => by
  simp only [Je5, Jjq]
  rw [Jab (ff (by omega)), h1, List.drop_eq_nil_of_le (by omega), List.drop_eq_nil_of_le (by omega)]; rfl
 | j + 1, m + 1, i, s4, e1, e2 => by
  simp only [Je5, Jjq]
  have e3 : a.drop i = a.getD i 0 :: a.drop (i + 1) := by rw [List.drop_eq_getElem_cons (by omega), Jjt (by omega)]
  have e4 : b.drop i = b.getD i 0 :: b.drop (i + 1) := by rw [List.drop_eq_getElem_cons (by omega), Jjt (by omega)]
  rw [Jaa (tt (by omega)), Jaa (tt2 (by omega) (by omega)), Jaa (tt2 (by omega) (by omega)), Int.toNat_natCast, e3, e4]
  by_cases h : a.getD i 0 = b.getD i 0
  ·rw [Jab (Jhl (by rw [h])), Jar (by omega) (by omega), h, List.cons_beq_cons, beq_self_eq_true, Bool.true_and]
   exact J79 F fail ex0 ex1 k a b hl ha h0 h1 j m (i + 1) s4 (by omega) (by omega)
  ·rw [Jaa (Jkp (fun e => h (UInt8.toNat_inj.1 (by omega)))), h0, List.cons_beq_cons, beq_eq_false_iff_ne.2 h, Bool.false_and]
theorem J0c (a b : List UInt8) (h : Jg2 a b = true) : ∃ F, ∀ {X : Type} (fail : X) (ret : Bool → X), Jx9 F a b fail ret = ret (Jg3 a b) := ⟨a.length + 1, fun fail ret => by
 simp only [Jg2, decide_eq_true_eq] at h
 unfold Jx9 Jg3
 by_cases hl : a.length = b.length
 ·rw [Jab (Jhl (by omega))]
  exact J79 (a.length + 1) fail _ _ ret a b hl h.1 (fun _ _ _ _ => rfl) (fun _ _ _ _ _ => rfl) a.length _ 0 false (by omega) (by omega)
 ·rw [Jaa (Jkp (by omega))]
  have : (a == b) = false := by
   rw [beq_eq_false_iff_ne]
   rintro rfl; exact hl rfl
  rw [this]⟩
theorem Klt (k : List UInt8) (h : Jnv k = true) : ∃ F, ∀ {X : Type} (fail : X) (ret : List UInt8 → List UInt8 → X), K5o F k fail ret = ret (Je9 k) (Jgb k) := ⟨1, fun fail ret => by
 simp only [Jnv, decide_eq_true_eq] at h
 unfold K5o
 rw [Jaa (c := Jp5 k _) (tt ⟨h, by simp⟩), Jaa (c := Jp5 k _) (tt ⟨h, by simp⟩)]
 rfl⟩
theorem Kxl (n : Int) : (le8 n).length = 8 := J28 _ 8
theorem Kqd (n : Int) (h0 : 0 ≤ n) (i : Nat) (hi : i < 8) : Kkn (Kfd n (Jll 8 (i : Int))) = UInt8.ofNat (n.toNat / 2 ^ (8 * i) % 256) := by
 rw [show Jll 8 (i : Int) = ((8 * i : Nat) : Int) by rw [Ji5 (by omega) (by omega)]; omega, J99 (by omega) (by omega), Kkp, Int.toNat_natCast]
 obtain ⟨N, rfl⟩ : ∃ N : Nat, n = N := ⟨n.toNat, by omega⟩
 rw [Int.toNat_natCast, show (2 : Int) ^ (8 * i) = ((2 ^ (8 * i) : Nat) : Int) by push_cast; rfl, ← Int.natCast_ediv]
 generalize N / 2 ^ (8 * i) = q
 congr 1
theorem K38 {X : Type} (F : Nat) (fail : X) (ex : Int → List UInt8 → Int → List UInt8 → List UInt8 → X) (n : Int) (h0 : 0 ≤ n) (b key : List UInt8) : ∀ (j m i : Nat), i + j = 8 → j ≤ m →
  Jrz F fail ex (m + 1) n b i key (Klr n.toNat i) = ex n b (8 : Nat) key (le8 n)
 | 0, m, i, hi, _ => by
  have e : i = 8 := by omega
  subst e
  rw [Jrz, Kar]
  rw [Jab (ff (by omega))]; rfl
 | j + 1, 0, i, _, hm => absurd hm (by omega)
 | j + 1, m + 1, i, hi, hm => by
  have ih := K38 F fail ex n h0 b key j m (i + 1) (by omega) (by omega)
  rw [Jrz, Kar]
  simp only [Kqd n h0 i (by omega), ← J78]
  rw [Jaa (tt (by omega)), Jaa (tt (by rw [Ji5 (by omega) (by omega)]; omega)), Jaa (Jds (by rw [J28]; omega)), Jar (by omega) (by omega)]
  exact ih
theorem Kse (key : List UInt8) (n : Int) (b : List UInt8) (h : Jzh key n b = true) : ∃ F, ∀ {X : Type} (fail : X) (ret : List UInt8 → X), cTag F key n b fail ret = ret (Jzi key n b) := ⟨99, fun fail ret => by
 simp only [Jzh, Bool.and_eq_true, decide_eq_true_eq] at h
 have hr := Kbl.1 h.1
 have hl : (le8 n ++ b).length = 8 + b.length := by rw [List.length_append, Kxl]
 unfold cTag
 refine (K38 99 fail _ n hr.1 b key 8 98 0 rfl (by omega)).trans ?_
 rw [List.take_of_length_le (show key.length ≤ 32 by omega), Jaa (Jds (by omega)), Jaa (c := Jp5 key _) (tt (by omega))]
 rfl⟩
theorem K39 {X : Type} (F : Nat) (fail : X) (ex : Int → Int → List UInt8 → Int → List UInt8 → List UInt8 → List UInt8 → List UInt8 → List UInt8 → X) (n : Int) (h0 : 0 ≤ n) (k : List UInt8) (n' : Int) (b c key au : List UInt8) : ∀ (j m i : Nat), i + j = 8 → j ≤ m →
  Jms F fail ex (m + 1) n i k n' b c key (Klr n.toNat i) au = ex n (8 : Nat) k n' b c key (le8 n) au
 | 0, m, i, hi, _ => by
  have e : i = 8 := by omega
  subst e
  rw [Jms, J1d]
  rw [Jab (ff (by omega))]; rfl
 | j + 1, 0, i, _, hm => absurd hm (by omega)
 | j + 1, m + 1, i, hi, hm => by
  have ih := K39 F fail ex n h0 k n' b c key au j m (i + 1) (by omega) (by omega)
  rw [Jms, J1d]
  simp only [Kqd n h0 i (by omega), ← J78]
  rw [Jaa (tt (by omega)), Jaa (tt (by rw [Ji5 (by omega) (by omega)]; omega)), Jaa (Jds (by rw [J28]; omega)), Jar (by omega) (by omega)]
  exact ih
theorem Kbr (k : List UInt8) : ∃ F, ∀ {X : Type} (fail : X) (ret : Bool → X), Kk2 F k fail ret = ret (Jks k) := ⟨1, fun fail ret => by
 unfold Kk2 Jks J5v
 by_cases h : (k.length : Int) ≥ 1
 ·rw [Jaa (tt h)]; congr 1
  by_cases c : (k.length : Int) ≤ 64
  ·rw [tt c, tt (by omega)]
  ·rw [ff c, ff (by omega)]
 ·rw [Jab (ff h), ff (by omega)]⟩
theorem J1k (k : List UInt8) : (Jp7 k).length = 32 := Kp7 _ _
theorem Jwi (k : List UInt8) (n : Int) (b : List UInt8) : (Kv7 k n b).length = 16 := by
 unfold Kv7; rw [List.length_take, Kp7]; omega
theorem Ksf (k : List UInt8) (n : Int) (b : List UInt8) : (J5v k = false ∧ Kku k n b = 1) ∨ (J5v k = true ∧ (b.length : Int) > 65520 ∧ Kku k n b = 5) ∨ (J5v k = true ∧ ¬ (b.length : Int) > 65520 ∧ inR n = false ∧ Kku k n b = 2) ∨ (J5v k = true ∧ ¬ (b.length : Int) > 65520 ∧ inR n = true ∧ Kku k n b = 0) := by
 unfold Kku
 cases J5v k with
 | false => exact .inl ⟨rfl, rfl⟩
 | true =>
  by_cases h : (b.length : Int) > 65520
  ·exact .inr (.inl ⟨rfl, h, by rw [if_pos rfl, if_pos h]⟩)
  ·rw [if_pos rfl, if_neg h]
   cases inR n with
   | false => exact .inr (.inr (.inl ⟨rfl, h, rfl, rfl⟩))
   | true => exact .inr (.inr (.inr ⟨rfl, h, rfl, rfl⟩))
theorem Jwj {k : List UInt8} : J5v k = true ↔ 1 ≤ k.length ∧ k.length ≤ 64 := by simp only [J5v, decide_eq_true_eq]
theorem K2e {n : Int} {b : List UInt8} (h : ¬ (b.length : Int) > 65536) (k : inR n = false) : K0f n b = 2 := by
 unfold K0f; rw [if_neg h, k]; rfl
theorem Klu {n : Int} {b : List UInt8} (h : ¬ (b.length : Int) > 65536) (k : inR n = true) : K0f n b = 0 := by
 unfold K0f; rw [if_neg h, k]; rfl
theorem Kxm {key : List UInt8} {n : Int} {b : List UInt8} (h : ¬ (b.length : Int) > 65536) (k : inR n = true) : strV key n b = Jz6 key n b := if_pos (Klu h k)
theorem Klv (k : List UInt8) (n : Int) (b : List UInt8) (_ : Kaj k n b = true) : ∃ F, ∀ {X : Type} (fail : X) (ret : List UInt8 → Int → X), K5p F k n b fail ret = ret (Jnw k n b) (Jrs k n b) := ⟨99, fun fail ret => by
 unfold K5p Jnw Jrs Jks Kkv
 rcases Ksf k n b with ⟨h, e⟩ | ⟨h, h1, e⟩ | ⟨h, h1, h2, e⟩ | ⟨h, h1, h2, e⟩ <;> rw [e, h]
 ·rw [Jaa (c := !false) rfl, if_neg (by omega)]
 ·rw [Jab (c := !true) rfl, Jaa (tt h1), if_neg (by omega)]
 ·have hk := Jwj.1 h
  have es : Jfz (Je9 k) n b = 2 := K2e (by omega) h2
  rw [Jab (c := !true) rfl, Jab (ff h1), if_neg (by omega), Jaa (c := Jnv k) (tt (by omega)), Jaa (c := Jkr _ _ _) rfl, es, Jaa (Jkp (by omega))]
 ·have hk := Jwj.1 h
  have hr := Kbl.1 h2
  have es : Jfz (Je9 k) n b = 0 := Klu (by omega) h2
  have ev : Jia (Je9 k) n b = Jz6 (Kjn k) n b := Kxm (by omega) h2
  have hl : (Jz6 (Kjn k) n b).length = b.length := Jlz _ _ _
  rw [Jab (c := !true) rfl, Jab (ff h1), if_pos rfl, Jaa (c := Jnv k) (tt (by omega)), Jaa (c := Jkr _ _ _) rfl, es, Jab (Jhl rfl), ev]
  refine (K39 99 fail _ n hr.1 k n b _ _ _ 8 98 0 rfl (by omega)).trans ?_
  have hl2 : (le8 n ++ Jz6 (Kjn k) n b).length = 8 + b.length := by rw [List.length_append, Kxl, hl]
  rw [show Jgb k = Jp7 k from rfl, List.take_of_length_le (show (Jp7 k).length ≤ 32 by rw [J1k]; omega), Jaa (Jds (by omega)), Jaa (c := Jp5 (Jp7 k) _) (tt (by rw [J1k]; omega))]
  rw [show List.take 16 (Jzg (Jp7 k) (le8 n ++ Jz6 (Kjn k) n b)) = Kv7 (Jp7 k) n (Jz6 (Kjn k) n b) from rfl, Jaa (Jds (by rw [List.length_append, Jwi, hl]; omega))]⟩
theorem Ksg (k : List UInt8) (n : Int) (b : List UInt8) : (J5v k = false ∧ Kai k n b = 1) ∨ (J5v k = true ∧ (b.length : Int) > 65536 ∧ Kai k n b = 5) ∨ (J5v k = true ∧ ¬ (b.length : Int) > 65536 ∧ inR n = false ∧ Kai k n b = 2) ∨ (J5v k = true ∧ ¬ (b.length : Int) > 65536 ∧ inR n = true ∧ b.length < 16 ∧ Kai k n b = 9) ∨
  (J5v k = true ∧ ¬ (b.length : Int) > 65536 ∧ inR n = true ∧ ¬ b.length < 16 ∧ Kv7 (Jp7 k) n (b.take (b.length - 16)) ≠ b.drop (b.length - 16) ∧ Kai k n b = 25) ∨
  (J5v k = true ∧ ¬ (b.length : Int) > 65536 ∧ inR n = true ∧ ¬ b.length < 16 ∧ Kv7 (Jp7 k) n (b.take (b.length - 16)) = b.drop (b.length - 16) ∧ Kai k n b = 0) := by
 unfold Kai
 cases J5v k with
 | false => exact .inl ⟨rfl, rfl⟩
 | true =>
  by_cases h : (b.length : Int) > 65536
  ·exact .inr (.inl ⟨rfl, h, by rw [if_pos rfl, if_pos h]⟩)
  ·rw [if_pos rfl, if_neg h]
   cases inR n with
   | false => exact .inr (.inr (.inl ⟨rfl, h, rfl, rfl⟩))
   | true =>
    by_cases h1 : b.length < 16
    ·exact .inr (.inr (.inr (.inl ⟨rfl, h, rfl, h1, by rw [if_pos rfl, if_pos h1]⟩)))
    ·by_cases h2 : Kv7 (Jp7 k) n (b.take (b.length - 16)) = b.drop (b.length - 16)
     ·exact .inr (.inr (.inr (.inr (.inr ⟨rfl, h, rfl, h1, h2, by rw [if_pos rfl, if_neg h1, if_pos h2]⟩))))
     ·exact .inr (.inr (.inr (.inr (.inl ⟨rfl, h, rfl, h1, h2, by rw [if_pos rfl, if_neg h1, if_neg h2]⟩))))
theorem Klw (k : List UInt8) (n : Int) (b : List UInt8) (_ : Jx0 k n b = true) : ∃ F, ∀ {X : Type} (fail : X) (ret : List UInt8 → Int → X), K5q F k n b fail ret = ret (Jhq k n b) (Jji k n b) := ⟨1, fun fail ret => by
 unfold K5q Jhq Jji Jks Jnu K3s
 have sub : Jdj (b.length : Int) 16 = (b.length : Int) - 16 ∨ (b.length : Int) > 65536 := by
  by_cases h : (b.length : Int) > 65536
  ·exact .inr h
  ·exact .inl (Jde (by omega) (by omega))
 rcases Ksg k n b with ⟨h, e⟩ | ⟨h, h1, e⟩ | ⟨h, h1, h2, e⟩ | ⟨h, h1, h2, h3, e⟩ | ⟨h, h1, h2, h3, h4, e⟩ | ⟨h, h1, h2, h3, h4, e⟩ <;> rw [e, h]
 ·rw [Jaa (c := !false) rfl, if_neg (by omega)]
 ·rw [Jab (c := !true) rfl, Jaa (tt h1), if_neg (by omega)]
 ·rw [Jab (c := !true) rfl, Jab (ff h1), h2, Jaa (c := !false) rfl, if_neg (by omega)]
 ·have hs := sub.resolve_right h1
  rw [Jab (c := !true) rfl, Jab (ff h1), h2, Jab (c := !true) rfl, hs, Jaa (tt (by omega)), if_neg (by omega)]
 ·have hk := Jwj.1 h
  have hs : Jdj (b.length : Int) 16 = ((b.length - 16 : Nat) : Int) := by rw [sub.resolve_right h1]; omega
  have ht : Jg3 (Jzi (Jgb k) n (b.take (b.length - 16))) (b.drop (b.length - 16)) = false := beq_eq_false_iff_ne.2 h4
  rw [Jab (c := !true) rfl, Jab (ff h1), h2, Jab (c := !true) rfl, hs, Int.toNat_natCast, Jab (ff (by omega)), if_neg (by omega), Jaa (c := Jnv k) (tt (by omega)), Jaa (tt2 (by omega) (by omega)), Jaa (c := Jzh _ _ _) (by
   unfold Jzh; rw [h2, Bool.true_and]; exact tt ⟨J1k k, by rw [List.length_take]; omega⟩), Jaa (tt2 (by omega) (by omega)), Jaa (c := Jg2 _ _) (tt ⟨by rw [show (Jzi (Jgb k) n (b.take (b.length - 16))).length = 16 from Jwi _ _ _]; omega, by rw [List.length_drop]; omega⟩), ht, Jaa (c := !false) rfl]
 ·have hk := Jwj.1 h
  have hs : Jdj (b.length : Int) 16 = ((b.length - 16 : Nat) : Int) := by rw [sub.resolve_right h1]; omega
  have ht : Jg3 (Jzi (Jgb k) n (b.take (b.length - 16))) (b.drop (b.length - 16)) = true := beq_iff_eq.2 h4
  have hl : ¬ ((b.take (b.length - 16)).length : Int) > 65536 := by rw [List.length_take]; omega
  rw [Jab (c := !true) rfl, Jab (ff h1), h2, Jab (c := !true) rfl, hs, Int.toNat_natCast, Jab (ff (by omega)), if_pos rfl, Jaa (c := Jnv k) (tt (by omega)), Jaa (tt2 (by omega) (by omega)), Jaa (c := Jzh _ _ _) (by
   unfold Jzh; rw [h2, Bool.true_and]; exact tt ⟨J1k k, by rw [List.length_take]; omega⟩), Jaa (tt2 (by omega) (by omega)), Jaa (c := Jg2 _ _) (tt ⟨by rw [show (Jzi (Jgb k) n (b.take (b.length - 16))).length = 16 from Jwi _ _ _]; omega, by rw [List.length_drop]; omega⟩), ht, Jab (c := !true) rfl, Jaa (tt2 (by omega) (by omega)), Jaa (c := Jkr _ _ _) rfl]
  rw [show Jia (Je9 k) n (b.take (b.length - 16)) = Jz6 (Kjn k) n (b.take (b.length - 16)) from Kxm hl h2, show Jfz (Je9 k) n (b.take (b.length - 16)) = 0 from Klu hl h2]⟩
end Go.AI
