/- Texts of the proof, joined: CipherP4. Names of our own are shortened by program; the long ones stand in wip/. -/
import Derived.Test.YtcdajbmgoafnkaaGreatQwG
import Derived.Test.YtcdajbmgoafnkaaGreatQwCipherP3
namespace Go.AI
open Go
theorem Kc4 {X : Type} (F : Nat) (fail : X) (ex0 ex1 : List UInt8 → List UInt8 → Bool → Int → Int → X) (k : Bool → X) (a b : List UInt8) (hl : a.length = b.length) (ha : a.length ≤ 1000000000000)
  (h0 : ∀ x y z u, ex0 x y false z u = k false) (h1 : ∀ x y z u v, ex1 x y z u v = k true) : ∀ (j m i : Nat) (s4 : Bool), i + j = a.length → j < m →
  Je7 F fail ex0 ex1 m a b s4 (a.length : Nat) i = k (a.drop i == b.drop i)
 | 0, m + 1, i, s4, e1, e2 => by
  simp only [Je7, Jkx]
  rw [Jab (ff (by omega)), h1, List.drop_eq_nil_of_le (by omega), List.drop_eq_nil_of_le (by omega)]; rfl
 | j + 1, m + 1, i, s4, e1, e2 => by
  simp only [Je7, Jkx]
  have e3 : a.drop i = a.getD i 0 :: a.drop (i + 1) := by rw [List.drop_eq_getElem_cons (by omega), Jjk (by omega)]
  have e4 : b.drop i = b.getD i 0 :: b.drop (i + 1) := by rw [List.drop_eq_getElem_cons (by omega), Jjk (by omega)]
  rw [Jaa (tt (by omega)), Jaa (tt2 (by omega) (by omega)), Jaa (tt2 (by omega) (by omega)), Int.toNat_natCast, e3, e4]
  by_cases h : a.getD i 0 = b.getD i 0
  ·rw [Jab (Jgh (by rw [h])), Jak (by omega) (by omega), h, List.cons_beq_cons, beq_self_eq_true, Bool.true_and]
   exact Kc4 F fail ex0 ex1 k a b hl ha h0 h1 j m (i + 1) s4 (by omega) (by omega)
  ·rw [Jaa (Jj8 (fun e => h (UInt8.toNat_inj.1 (by omega)))), h0, List.cons_beq_cons, beq_eq_false_iff_ne.2 h, Bool.false_and]
theorem J3r (a b : List UInt8) (h : Jhn a b = true) : ∃ F, ∀ {X : Type} (fail : X) (ret : Bool → X), J01 F a b fail ret = ret (Jho a b) := ⟨a.length + 1, fun fail ret => by
 simp only [Jhn, decide_eq_true_eq] at h
 unfold J01 Jho
 by_cases hl : a.length = b.length
 ·rw [Jab (Jgh (by omega))]
  exact Kc4 (a.length + 1) fail _ _ ret a b hl h.1 (fun _ _ _ _ => rfl) (fun _ _ _ _ _ => rfl) a.length _ 0 false (by omega) (by omega)
 ·rw [Jaa (Jj8 (by omega))]
  have : (a == b) = false := by
   rw [beq_eq_false_iff_ne]
   rintro rfl; exact hl rfl
  rw [this]⟩
theorem Ksh (k : List UInt8) (h : Jpm k = true) : ∃ F, ∀ {X : Type} (fail : X) (ret : List UInt8 → List UInt8 → X), Qe9 F k fail ret = ret (Jfb k) (Jgo k) := ⟨1, fun fail ret => by
 simp only [Jpm, decide_eq_true_eq] at h
 unfold Qe9
 rw [Jaa (c := Jrx k _) (tt ⟨h, by simp⟩), Jaa (c := Jrx k _) (tt ⟨h, by simp⟩)]
 rfl⟩
theorem Ksi (k : List UInt8) (h : J0v k = true) : ∃ F, ∀ {X : Type} (fail : X) (ret : List UInt8 → List UInt8 → X), Qfc F k fail ret = ret (Jpo k) (Jtw k) := ⟨1, fun fail ret => by
 simp only [J0v, decide_eq_true_eq] at h
 unfold Qfc
 rw [Jaa (c := Jyc k _) (tt ⟨h, by simp⟩), Jaa (c := Jyc k _) (tt ⟨h, by simp⟩)]
 rfl⟩
theorem Ksj (n : Int) : (le8 n).length = 8 := Jy7 _ 8
theorem Kxv (n : Int) (h0 : 0 ≤ n) (i : Nat) (hi : i < 8) : Kjg (Kkw n (Jfe 8 (i : Int))) = UInt8.ofNat (n.toNat / 2 ^ (8 * i) % 256) := by
 rw [show Jfe 8 (i : Int) = ((8 * i : Nat) : Int) by rw [Jgv (by omega) (by omega)]; omega, Kff (by omega) (by omega), Kfh, Int.toNat_natCast]
 obtain ⟨N, rfl⟩ : ∃ N : Nat, n = N := ⟨n.toNat, by omega⟩
 rw [Int.toNat_natCast, show (2 : Int) ^ (8 * i) = ((2 ^ (8 * i) : Nat) : Int) by push_cast; rfl, ← Int.natCast_ediv]
 generalize N / 2 ^ (8 * i) = q
 congr 1
theorem Qdr {X : Type} (F : Nat) (fail : X) (ex : Int → List UInt8 → Int → List UInt8 → List UInt8 → X) (n : Int) (h0 : 0 ≤ n) (b key : List UInt8) : ∀ (j m i : Nat), i + j = 8 → j ≤ m →
  Jt7 F fail ex (m + 1) n b i key (Kg0 n.toNat i) = ex n b (8 : Nat) key (le8 n)
 | 0, m, i, hi, _ => by
  have e : i = 8 := by omega
  subst e
  rw [Jt7, Kfy]
  rw [Jab (ff (by omega))]; rfl
 | j + 1, 0, i, _, hm => absurd hm (by omega)
 | j + 1, m + 1, i, hi, hm => by
  have ih := Qdr F fail ex n h0 b key j m (i + 1) (by omega) (by omega)
  rw [Jt7, Kfy]
  simp only [Kxv n h0 i (by omega), ← J09]
  rw [Jaa (tt (by omega)), Jaa (tt (by rw [Jgv (by omega) (by omega)]; omega)), Jaa (Jcg (by rw [Jy7]; omega)), Jak (by omega) (by omega)]
  exact ih
theorem Kz9 (key : List UInt8) (n : Int) (b : List UInt8) (h : J2o key n b = true) : ∃ F, ∀ {X : Type} (fail : X) (ret : List UInt8 → X), cTag F key n b fail ret = ret (J2p key n b) := ⟨99, fun fail ret => by
 simp only [J2o, Bool.and_eq_true, decide_eq_true_eq] at h
 have hr := Jqd.1 h.1
 have hl : (le8 n ++ b).length = 8 + b.length := by rw [List.length_append, Ksj]
 unfold cTag
 refine (Qdr 99 fail _ n hr.1 b key 8 98 0 rfl (by omega)).trans ?_
 rw [List.take_of_length_le (show key.length ≤ 32 by omega), Jaa (Jcg (by omega)), Jaa (c := Jrx key _) (tt (by omega))]
 rfl⟩
theorem Qds {X : Type} (F : Nat) (fail : X) (ex : Int → Int → List UInt8 → Int → List UInt8 → List UInt8 → List UInt8 → List UInt8 → List UInt8 → X) (n : Int) (h0 : 0 ≤ n) (k : List UInt8) (n' : Int) (b c key au : List UInt8) : ∀ (j m i : Nat), i + j = 8 → j ≤ m →
  Jom F fail ex (m + 1) n i k n' b c key (Kg0 n.toNat i) au = ex n (8 : Nat) k n' b c key (le8 n) au
 | 0, m, i, hi, _ => by
  have e : i = 8 := by omega
  subst e
  rw [Jom, J4w]
  rw [Jab (ff (by omega))]; rfl
 | j + 1, 0, i, _, hm => absurd hm (by omega)
 | j + 1, m + 1, i, hi, hm => by
  have ih := Qds F fail ex n h0 k n' b c key au j m (i + 1) (by omega) (by omega)
  rw [Jom, J4w]
  simp only [Kxv n h0 i (by omega), ← J09]
  rw [Jaa (tt (by omega)), Jaa (tt (by rw [Jgv (by omega) (by omega)]; omega)), Jaa (Jcg (by rw [Jy7]; omega)), Jak (by omega) (by omega)]
  exact ih
theorem Kg5 (k : List UInt8) : ∃ F, ∀ {X : Type} (fail : X) (ret : Bool → X), Kro F k fail ret = ret (Jl5 k) := ⟨1, fun fail ret => by
 unfold Kro Jl5 Kaf
 by_cases h : (k.length : Int) ≥ 1
 ·rw [Jaa (tt h)]; congr 1
  by_cases c : (k.length : Int) ≤ 64
  ·rw [tt c, tt (by omega)]
  ·rw [ff c, ff (by omega)]
 ·rw [Jab (ff h), ff (by omega)]⟩
theorem Jur (k : List UInt8) : (Jn2 k).length = 32 := Kgt _ _
theorem Jus (k : List UInt8) (n : Int) (b : List UInt8) : (K17 k n b).length = 16 := by
 unfold K17; rw [List.length_take, Kgt]; omega
theorem K0a (k : List UInt8) (n : Int) (b : List UInt8) : (Kaf k = false ∧ Kji k n b = 1) ∨ (Kaf k = true ∧ (b.length : Int) > 65520 ∧ Kji k n b = 5) ∨ (Kaf k = true ∧ ¬ (b.length : Int) > 65520 ∧ inR n = false ∧ Kji k n b = 2) ∨ (Kaf k = true ∧ ¬ (b.length : Int) > 65520 ∧ inR n = true ∧ Kji k n b = 0) := by
 unfold Kji
 cases Kaf k with
 | false => exact .inl ⟨rfl, rfl⟩
 | true =>
  by_cases h : (b.length : Int) > 65520
  ·exact .inr (.inl ⟨rfl, h, by rw [if_pos rfl, if_pos h]⟩)
  ·rw [if_pos rfl, if_neg h]
   cases inR n with
   | false => exact .inr (.inr (.inl ⟨rfl, h, rfl, rfl⟩))
   | true => exact .inr (.inr (.inr ⟨rfl, h, rfl, rfl⟩))
theorem Jii {k : List UInt8} : Kaf k = true ↔ 1 ≤ k.length ∧ k.length ≤ 64 := by simp only [Kaf, decide_eq_true_eq]
theorem Qbq {n : Int} {b : List UInt8} (h : ¬ (b.length : Int) > 65536) (k : inR n = false) : K4c n b = 2 := by
 unfold K4c; rw [if_neg h, k]; rfl
theorem Kg6 {n : Int} {b : List UInt8} (h : ¬ (b.length : Int) > 65536) (k : inR n = true) : K4c n b = 0 := by
 unfold K4c; rw [if_neg h, k]; rfl
theorem Ksk {key : List UInt8} {n : Int} {b : List UInt8} (h : ¬ (b.length : Int) > 65536) (k : inR n = true) : Qhz key n b = Jxe key n b := if_pos (Kg6 h k)
theorem Ksl (k : List UInt8) (n : Int) (b : List UInt8) (_ : Kfo k n b = true) : ∃ F, ∀ {X : Type} (fail : X) (ret : List UInt8 → Int → X), Qfa F k n b fail ret = ret (Jpn k n b) (Jtu k n b) := ⟨99, fun fail ret => by
 unfold Qfa Jpn Jtu Jl5 Kfn
 rcases K0a k n b with ⟨h, e⟩ | ⟨h, h1, e⟩ | ⟨h, h1, h2, e⟩ | ⟨h, h1, h2, e⟩ <;> rw [e, h]
 ·rw [Jaa (c := !false) rfl, if_neg (by omega)]
 ·rw [Jab (c := !true) rfl, Jaa (tt h1), if_neg (by omega)]
 ·have hk := Jii.1 h
  have es : Jga (Jfb k) n b = 2 := Qbq (by omega) h2
  rw [Jab (c := !true) rfl, Jab (ff h1), if_neg (by omega), Jaa (c := Jpm k) (tt (by omega)), Jaa (c := Jl4 _ _ _) rfl, es, Jaa (Jj8 (by omega))]
 ·have hk := Jii.1 h
  have hr := Jqd.1 h2
  have es : Jga (Jfb k) n b = 0 := Kg6 (by omega) h2
  have ev : Jiy (Jfb k) n b = Jxe (Kjh k) n b := Ksk (by omega) h2
  have hl : (Jxe (Kjh k) n b).length = b.length := Jih _ _ _
  rw [Jab (c := !true) rfl, Jab (ff h1), if_pos rfl, Jaa (c := Jpm k) (tt (by omega)), Jaa (c := Jl4 _ _ _) rfl, es, Jab (Jgh rfl), ev]
  refine (Qds 99 fail _ n hr.1 k n b _ _ _ 8 98 0 rfl (by omega)).trans ?_
  have hl2 : (le8 n ++ Jxe (Kjh k) n b).length = 8 + b.length := by rw [List.length_append, Ksj, hl]
  rw [show Jgo k = Jn2 k from rfl, List.take_of_length_le (show (Jn2 k).length ≤ 32 by rw [Jur]; omega), Jaa (Jcg (by omega)), Jaa (c := Jrx (Jn2 k) _) (tt (by rw [Jur]; omega))]
  rw [show List.take 16 (J2m (Jn2 k) (le8 n ++ Jxe (Kjh k) n b)) = K17 (Jn2 k) n (Jxe (Kjh k) n b) from rfl, Jaa (Jcg (by rw [List.length_append, Jus, hl]; omega))]⟩
theorem Kc5 (k : List UInt8) (n : Int) (b : List UInt8) : (Kaf k = false ∧ J4o k n b = 1) ∨ (Kaf k = true ∧ (b.length : Int) > 65536 ∧ J4o k n b = 5) ∨ (Kaf k = true ∧ ¬ (b.length : Int) > 65536 ∧ inR n = false ∧ J4o k n b = 2) ∨ (Kaf k = true ∧ ¬ (b.length : Int) > 65536 ∧ inR n = true ∧ b.length < 16 ∧ J4o k n b = 9) ∨
  (Kaf k = true ∧ ¬ (b.length : Int) > 65536 ∧ inR n = true ∧ ¬ b.length < 16 ∧ K17 (Jn2 k) n (b.take (b.length - 16)) ≠ b.drop (b.length - 16) ∧ J4o k n b = 25) ∨
  (Kaf k = true ∧ ¬ (b.length : Int) > 65536 ∧ inR n = true ∧ ¬ b.length < 16 ∧ K17 (Jn2 k) n (b.take (b.length - 16)) = b.drop (b.length - 16) ∧ J4o k n b = 0) := by
 unfold J4o
 cases Kaf k with
 | false => exact .inl ⟨rfl, rfl⟩
 | true =>
  by_cases h : (b.length : Int) > 65536
  ·exact .inr (.inl ⟨rfl, h, by rw [if_pos rfl, if_pos h]⟩)
  ·rw [if_pos rfl, if_neg h]
   cases inR n with
   | false => exact .inr (.inr (.inl ⟨rfl, h, rfl, rfl⟩))
   | true =>
    by_cases h1 : b.length < 16
    ·exact .inr (.inr (.inr (.inl ⟨rfl, h, rfl, h1, by rw [if_pos rfl, if_pos h1]⟩)))
    ·by_cases h2 : K17 (Jn2 k) n (b.take (b.length - 16)) = b.drop (b.length - 16)
     ·exact .inr (.inr (.inr (.inr (.inr ⟨rfl, h, rfl, h1, h2, by rw [if_pos rfl, if_neg h1, if_pos h2]⟩))))
     ·exact .inr (.inr (.inr (.inr (.inl ⟨rfl, h, rfl, h1, h2, by rw [if_pos rfl, if_neg h1, if_neg h2]⟩))))
theorem Ksm (k : List UInt8) (n : Int) (b : List UInt8) (_ : J0u k n b = true) : ∃ F, ∀ {X : Type} (fail : X) (ret : List UInt8 → Int → X), Qfb F k n b fail ret = ret (Jh9 k n b) (Jkn k n b) := ⟨1, fun fail ret => by
 unfold Qfb Jh9 Jkn Jl5 Jpl K9o
 have sub : Jby (b.length : Int) 16 = (b.length : Int) - 16 ∨ (b.length : Int) > 65536 := by
  by_cases h : (b.length : Int) > 65536
  ·exact .inr h
  ·exact .inl (Jcf (by omega) (by omega))
 rcases Kc5 k n b with ⟨h, e⟩ | ⟨h, h1, e⟩ | ⟨h, h1, h2, e⟩ | ⟨h, h1, h2, h3, e⟩ | ⟨h, h1, h2, h3, h4, e⟩ | ⟨h, h1, h2, h3, h4, e⟩ <;> rw [e, h]
 ·rw [Jaa (c := !false) rfl, if_neg (by omega)]
 ·rw [Jab (c := !true) rfl, Jaa (tt h1), if_neg (by omega)]
 ·rw [Jab (c := !true) rfl, Jab (ff h1), h2, Jaa (c := !false) rfl, if_neg (by omega)]
 ·have hs := sub.resolve_right h1
  rw [Jab (c := !true) rfl, Jab (ff h1), h2, Jab (c := !true) rfl, hs, Jaa (tt (by omega)), if_neg (by omega)]
 ·have hk := Jii.1 h
  have hs : Jby (b.length : Int) 16 = ((b.length - 16 : Nat) : Int) := by rw [sub.resolve_right h1]; omega
  have ht : Jho (J2p (Jgo k) n (b.take (b.length - 16))) (b.drop (b.length - 16)) = false := beq_eq_false_iff_ne.2 h4
  rw [Jab (c := !true) rfl, Jab (ff h1), h2, Jab (c := !true) rfl, hs, Int.toNat_natCast, Jab (ff (by omega)), if_neg (by omega), Jaa (c := Jpm k) (tt (by omega)), Jaa (tt2 (by omega) (by omega)), Jaa (c := J2o _ _ _) (by
   unfold J2o; rw [h2, Bool.true_and]; exact tt ⟨Jur k, by rw [List.length_take]; omega⟩), Jaa (tt2 (by omega) (by omega)), Jaa (c := Jhn _ _) (tt ⟨by rw [show (J2p (Jgo k) n (b.take (b.length - 16))).length = 16 from Jus _ _ _]; omega, by rw [List.length_drop]; omega⟩), ht, Jaa (c := !false) rfl]
 ·have hk := Jii.1 h
  have hs : Jby (b.length : Int) 16 = ((b.length - 16 : Nat) : Int) := by rw [sub.resolve_right h1]; omega
  have ht : Jho (J2p (Jgo k) n (b.take (b.length - 16))) (b.drop (b.length - 16)) = true := beq_iff_eq.2 h4
  have hl : ¬ ((b.take (b.length - 16)).length : Int) > 65536 := by rw [List.length_take]; omega
  rw [Jab (c := !true) rfl, Jab (ff h1), h2, Jab (c := !true) rfl, hs, Int.toNat_natCast, Jab (ff (by omega)), if_pos rfl, Jaa (c := Jpm k) (tt (by omega)), Jaa (tt2 (by omega) (by omega)), Jaa (c := J2o _ _ _) (by
   unfold J2o; rw [h2, Bool.true_and]; exact tt ⟨Jur k, by rw [List.length_take]; omega⟩), Jaa (tt2 (by omega) (by omega)), Jaa (c := Jhn _ _) (tt ⟨by rw [show (J2p (Jgo k) n (b.take (b.length - 16))).length = 16 from Jus _ _ _]; omega, by rw [List.length_drop]; omega⟩), ht, Jab (c := !true) rfl, Jaa (tt2 (by omega) (by omega)), Jaa (c := Jl4 _ _ _) rfl]
  rw [show Jiy (Jfb k) n (b.take (b.length - 16)) = Jxe (Kjh k) n (b.take (b.length - 16)) from Ksk hl h2, show Jga (Jfb k) n (b.take (b.length - 16)) = 0 from Kg6 hl h2]⟩
theorem K59 {X : Type} (F : Nat) (fail : X) (ex : Int → List UInt8 → Int → List UInt8 → List UInt8 → X) (n : Int) (b key : List UInt8) (hk : key.length = 32) : ∀ (j m i : Nat), i + j = 32 → j ≤ m →
  Jt8 F fail ex (m + 1) n b i key (key.take i) = ex n b (32 : Nat) key key
 | 0, m, i, hi, _ => by
  have e : i = 32 := by omega
  subst e
  rw [Jt8, Kfz]
  rw [Jab (ff (by omega)), List.take_of_length_le (by omega)]
 | j + 1, 0, i, _, hm => absurd hm (by omega)
 | j + 1, m + 1, i, hi, hm => by
  have ih := K59 F fail ex n b key hk j m (i + 1) (by omega) (by omega)
  rw [Jdx key i 0 (by omega)] at ih
  rw [Jt8, Kfz, Int.toNat_natCast]
  rw [Jaa (tt (by omega)), Jaa (tt2 (by omega) (by omega)), Jaa (Jcg (by rw [List.length_append, List.length_take]; show min i _ + 1 ≤ _; omega)), Jak (by omega) (by omega)]
  exact ih
theorem K6a {X : Type} (F : Nat) (fail : X) (ex : Int → List UInt8 → List UInt8 → X) (d : List UInt8) (hd : d.length = 32) : ∀ (j m i : Nat), i + j = 16 → j ≤ m →
  Jt9 F fail ex (m + 1) i d (d.take i) = ex (16 : Nat) d (d.take 16)
 | 0, m, i, hi, _ => by
  have e : i = 16 := by omega
  subst e
  rw [Jt9, Kf0]
  rw [Jab (ff (by omega))]
 | j + 1, 0, i, _, hm => absurd hm (by omega)
 | j + 1, m + 1, i, hi, hm => by
  have ih := K6a F fail ex d hd j m (i + 1) (by omega) (by omega)
  rw [Jdx d i 0 (by omega)] at ih
  rw [Jt9, Kf0, Int.toNat_natCast]
  rw [Jaa (tt (by omega)), Jaa (tt2 (by omega) (by omega)), Jaa (Jcg (by rw [List.length_append, List.length_take]; show min i _ + 1 ≤ _; omega)), Jak (by omega) (by omega)]
  exact ih
theorem K0b (key : List UInt8) (n : Int) (b : List UInt8) (h : J2q key n b = true) : ∃ F, ∀ {X : Type} (fail : X) (ret : List UInt8 → X), rTag F key n b fail ret = ret (Kk4 key n b) := ⟨99, fun fail ret => by
 simp only [J2q, Bool.and_eq_true, decide_eq_true_eq] at h
 have hr := Jqd.1 h.1
 have hl : (le8 n ++ b).length = 8 + b.length := by rw [List.length_append, Ksj]
 unfold rTag
 refine (K59 99 fail _ n b key h.2.1 32 98 0 rfl (by omega)).trans ?_
 rw [show Jia n 8 = le8 n from rfl, Jaa (c := Jl6 n 8) (tt (by omega)), Jaa (Jcg (by omega)), Jaa (c := Jyc key _) (tt (by omega))]
 exact K6a 99 fail _ _ (Kgt _ _) 16 98 0 rfl (by omega)⟩
theorem Ksn (k : List UInt8) (n : Int) (b : List UInt8) (_ : Krf k n b = true) : ∃ F, ∀ {X : Type} (fail : X) (ret : List UInt8 → Int → X), Qfd F k n b fail ret = ret (Kfp k n b) (Jye k n b) := ⟨1, fun fail ret => by
 unfold Qfd Kfp Jye Jib K9o
 rcases Kc5 k n b with ⟨h, e⟩ | ⟨h, h1, e⟩ | ⟨h, h1, h2, e⟩ | ⟨h, h1, h2, h3, e⟩ | ⟨h, h1, h2, h3, h4, e⟩ | ⟨h, h1, h2, h3, h4, e⟩ <;> rw [e]
 ·have hk : ¬ (1 ≤ k.length ∧ k.length ≤ 64) := fun c => by rw [Jii.2 c] at h; cases h
  rw [if_neg (by omega)]
  by_cases c : (k.length : Int) < 1
  ·rw [Jaa (tt c)]
  ·rw [Jab (ff c), Jaa (tt (by omega))]
 ·have hk := Jii.1 h
  rw [Jab (ff (by omega)), Jab (ff (by omega)), Jaa (tt h1), if_neg (by omega)]
 ·have hk := Jii.1 h
  rw [Jab (ff (by omega)), Jab (ff (by omega)), Jab (ff h1), h2, Jaa (c := !false) rfl, if_neg (by omega)]
 ·have hk := Jii.1 h
  rw [Jab (ff (by omega)), Jab (ff (by omega)), Jab (ff h1), h2, Jab (c := !true) rfl, Jaa (tt (by omega)), if_neg (by omega)]
 ·have hk := Jii.1 h
  have hs : Jby (b.length : Int) 16 = ((b.length - 16 : Nat) : Int) := by rw [Jcf (by omega) (by omega)]; omega
  have ht : (Kk4 (Jtw k) n (b.take (b.length - 16)) == b.drop (b.length - 16)) = false := beq_eq_false_iff_ne.2 h4
  rw [Jab (ff (by omega)), Jab (ff (by omega)), Jab (ff h1), h2, Jab (c := !true) rfl, hs, Int.toNat_natCast, Jab (ff (by omega)), if_neg (by omega), Jaa (c := J0v k) (tt (by omega)), Jaa (tt2 (by omega) (by omega)), Jaa (c := J2q _ _ _) (by
   unfold J2q; rw [h2, Bool.true_and]; exact tt ⟨Jur k, by rw [List.length_take]; omega⟩), Jaa (tt2 (by omega) (by omega)), ht, Jaa (c := !false) rfl]
 ·have hk := Jii.1 h
  have hs : Jby (b.length : Int) 16 = ((b.length - 16 : Nat) : Int) := by rw [Jcf (by omega) (by omega)]; omega
  have ht : (Kk4 (Jtw k) n (b.take (b.length - 16)) == b.drop (b.length - 16)) = true := beq_iff_eq.2 h4
  have hl : ¬ ((b.take (b.length - 16)).length : Int) > 65536 := by rw [List.length_take]; omega
  rw [Jab (ff (by omega)), Jab (ff (by omega)), Jab (ff h1), h2, Jab (c := !true) rfl, hs, Int.toNat_natCast, Jab (ff (by omega)), if_pos rfl, Jaa (c := J0v k) (tt (by omega)), Jaa (tt2 (by omega) (by omega)), Jaa (c := J2q _ _ _) (by
   unfold J2q; rw [h2, Bool.true_and]; exact tt ⟨Jur k, by rw [List.length_take]; omega⟩), Jaa (tt2 (by omega) (by omega)), ht, Jab (c := !true) rfl, Jaa (tt2 (by omega) (by omega)), Jaa (c := Jyd _ _ _) rfl]
  rw [show Joc (Jpo k) n (b.take (b.length - 16)) = Jxe (Kjh k) n (b.take (b.length - 16)) from Ksk hl h2, show Jod (Jpo k) n (b.take (b.length - 16)) = 0 from Kg6 hl h2]⟩
end Go.AI
