/- Texts of the proof, joined: CipherP4. Names of our own are shortened by program; the long ones stand in wip/. -/
import Derived.Test.YtcdajbmgoafnkaaGreatQrG
import Derived.Test.YtcdajbmgoafnkaaGreatQrCipherP3
namespace Go.AI
open Go
theorem Kiw {X : Type} (F : Nat) (fail : X) (ex0 ex1 : List UInt8 → List UInt8 → Bool → Int → Int → X) (k : Bool → X) (a b : List UInt8) (hl : a.length = b.length) (ha : a.length ≤ 1000000000000)
  (h0 : ∀ x y z u, ex0 x y false z u = k false) (h1 : ∀ x y z u v, ex1 x y z u v = k true) : ∀ (j m i : Nat) (s4 : Bool), i + j = a.length → j < m →
  Jgg F fail ex0 ex1 m a b s4 (a.length : Nat) i = k (a.drop i == b.drop i)
 | 0, m + 1, i, s4, e1, e2 => by
  simp only [Jgg, Jma]
  rw [Jab (ff (by omega)), h1, List.drop_eq_nil_of_le (by omega), List.drop_eq_nil_of_le (by omega)]; rfl
 | j + 1, m + 1, i, s4, e1, e2 => by
  simp only [Jgg, Jma]
  have e3 : a.drop i = a.getD i 0 :: a.drop (i + 1) := by rw [List.drop_eq_getElem_cons (by omega), Jpi (by omega)]
  have e4 : b.drop i = b.getD i 0 :: b.drop (i + 1) := by rw [List.drop_eq_getElem_cons (by omega), Jpi (by omega)]
  rw [Jaa (tt (by omega)), Jaa (tt2 (by omega) (by omega)), Jaa (tt2 (by omega) (by omega)), Int.toNat_natCast, e3, e4]
  by_cases h : a.getD i 0 = b.getD i 0
  ·rw [Jab (Jgm (by rw [h])), Jai (by omega) (by omega), h, List.cons_beq_cons, beq_self_eq_true, Bool.true_and]
   exact Kiw F fail ex0 ex1 k a b hl ha h0 h1 j m (i + 1) s4 (by omega) (by omega)
  ·rw [Jaa (Jhl (fun e => h (UInt8.toNat_inj.1 (by omega)))), h0, List.cons_beq_cons, beq_eq_false_iff_ne.2 h, Bool.false_and]
theorem J7m (a b : List UInt8) (h : Ji4 a b = true) : ∃ F, ∀ {X : Type} (fail : X) (ret : Bool → X), J4i F a b fail ret = ret (Ji5 a b) := ⟨a.length + 1, fun fail ret => by
 simp only [Ji4, decide_eq_true_eq] at h
 unfold J4i Ji5
 by_cases hl : a.length = b.length
 ·rw [Jab (Jgm (by omega))]
  exact Kiw (a.length + 1) fail _ _ ret a b hl h.1 (fun _ _ _ _ => rfl) (fun _ _ _ _ _ => rfl) a.length _ 0 false (by omega) (by omega)
 ·rw [Jaa (Jhl (by omega))]
  have : (a == b) = false := by
   rw [beq_eq_false_iff_ne]
   rintro rfl; exact hl rfl
  rw [this]⟩
theorem Kzf (k : List UInt8) (h : Jrt k = true) : ∃ F, ∀ {X : Type} (fail : X) (ret : List UInt8 → List UInt8 → X), Ql5 F k fail ret = ret (Jgj k) (Jh3 k) := ⟨1, fun fail ret => by
 simp only [Jrt, decide_eq_true_eq] at h
 unfold Ql5
 rw [Jaa (c := Jua k _) (tt ⟨h, by simp⟩), Jaa (c := Jua k _) (tt ⟨h, by simp⟩)]
 rfl⟩
theorem Kzg (k : List UInt8) (h : J4b k = true) : ∃ F, ∀ {X : Type} (fail : X) (ret : List UInt8 → List UInt8 → X), Ql8 F k fail ret = ret (Jrv k) (Jwn k) := ⟨1, fun fail ret => by
 simp only [J4b, decide_eq_true_eq] at h
 unfold Ql8
 rw [Jaa (c := J1e k _) (tt ⟨h, by simp⟩), Jaa (c := J1e k _) (tt ⟨h, by simp⟩)]
 rfl⟩
theorem Kzh (n : Int) : (le8 n).length = 8 := J2n _ 8
theorem K4w (n : Int) (h0 : 0 ≤ n) (i : Nat) (hi : i < 8) : Kfc (Kqz n (Je6 8 (i : Int))) = UInt8.ofNat (n.toNat / 2 ^ (8 * i) % 256) := by
 rw [show Je6 8 (i : Int) = ((8 * i : Nat) : Int) by rw [Jff (by omega) (by omega)]; omega, Klf (by omega) (by omega), Kau, Int.toNat_natCast]
 obtain ⟨N, rfl⟩ : ∃ N : Nat, n = N := ⟨n.toNat, by omega⟩
 rw [Int.toNat_natCast, show (2 : Int) ^ (8 * i) = ((2 ^ (8 * i) : Nat) : Int) by push_cast; rfl, ← Int.natCast_ediv]
 generalize N / 2 ^ (8 * i) = q
 congr 1
theorem Qks {X : Type} (F : Nat) (fail : X) (ex : Int → List UInt8 → Int → List UInt8 → List UInt8 → X) (n : Int) (h0 : 0 ≤ n) (b key : List UInt8) : ∀ (j m i : Nat), i + j = 8 → j ≤ m →
  Jw2 F fail ex (m + 1) n b i key (Kmy n.toNat i) = ex n b (8 : Nat) key (le8 n)
 | 0, m, i, hi, _ => by
  have e : i = 8 := by omega
  subst e
  rw [Jw2, Kl1]
  rw [Jab (ff (by omega))]; rfl
 | j + 1, 0, i, _, hm => absurd hm (by omega)
 | j + 1, m + 1, i, hi, hm => by
  have ih := Qks F fail ex n h0 b key j m (i + 1) (by omega) (by omega)
  rw [Jw2, Kl1]
  simp only [K4w n h0 i (by omega), ← J4r]
  rw [Jaa (tt (by omega)), Jaa (tt (by rw [Jff (by omega) (by omega)]; omega)), Jaa (Jch (by rw [J2n]; omega)), Jai (by omega) (by omega)]
  exact ih
theorem K7i (key : List UInt8) (n : Int) (b : List UInt8) (h : J6d key n b = true) : ∃ F, ∀ {X : Type} (fail : X) (ret : List UInt8 → X), cTag F key n b fail ret = ret (J6e key n b) := ⟨99, fun fail ret => by
 simp only [J6d, Bool.and_eq_true, decide_eq_true_eq] at h
 have hr := J4p.1 h.1
 have hl : (le8 n ++ b).length = 8 + b.length := by rw [List.length_append, Kzh]
 unfold cTag
 refine (Qks 99 fail _ n hr.1 b key 8 98 0 rfl (by omega)).trans ?_
 rw [List.take_of_length_le (show key.length ≤ 32 by omega), Jaa (Jch (by omega)), Jaa (c := Jua key _) (tt (by omega))]
 rfl⟩
theorem Qkt {X : Type} (F : Nat) (fail : X) (ex : Int → Int → List UInt8 → Int → List UInt8 → List UInt8 → List UInt8 → List UInt8 → List UInt8 → X) (n : Int) (h0 : 0 ≤ n) (k : List UInt8) (n' : Int) (b c key au : List UInt8) : ∀ (j m i : Nat), i + j = 8 → j ≤ m →
  Jqk F fail ex (m + 1) n i k n' b c key (Kmy n.toNat i) au = ex n (8 : Nat) k n' b c key (le8 n) au
 | 0, m, i, hi, _ => by
  have e : i = 8 := by omega
  subst e
  rw [Jqk, J82]
  rw [Jab (ff (by omega))]; rfl
 | j + 1, 0, i, _, hm => absurd hm (by omega)
 | j + 1, m + 1, i, hi, hm => by
  have ih := Qkt F fail ex n h0 k n' b c key au j m (i + 1) (by omega) (by omega)
  rw [Jqk, J82]
  simp only [K4w n h0 i (by omega), ← J4r]
  rw [Jaa (tt (by omega)), Jaa (tt (by rw [Jff (by omega) (by omega)]; omega)), Jaa (Jch (by rw [J2n]; omega)), Jai (by omega) (by omega)]
  exact ih
theorem Km3 (k : List UInt8) : ∃ F, ∀ {X : Type} (fail : X) (ret : Bool → X), Kyj F k fail ret = ret (Jni k) := ⟨1, fun fail ret => by
 unfold Kyj Jni Kif
 by_cases h : (k.length : Int) ≥ 1
 ·rw [Jaa (tt h)]; congr 1
  by_cases c : (k.length : Int) ≤ 64
  ·rw [tt c, tt (by omega)]
  ·rw [ff c, ff (by omega)]
 ·rw [Jab (ff h), ff (by omega)]⟩
theorem Jxq (k : List UInt8) : (Jtr k).length = 32 := Kmr _ _
theorem J9h (k : List UInt8) (n : Int) (b : List UInt8) : (Qg2 k n b).length = 16 := by
 unfold Qg2; rw [List.length_take, Kmr]; omega
theorem K7j (k : List UInt8) (n : Int) (b : List UInt8) : (Kif k = false ∧ K31 k n b = 1) ∨ (Kif k = true ∧ (b.length : Int) > 65520 ∧ K31 k n b = 5) ∨ (Kif k = true ∧ ¬ (b.length : Int) > 65520 ∧ inR n = false ∧ K31 k n b = 2) ∨ (Kif k = true ∧ ¬ (b.length : Int) > 65520 ∧ inR n = true ∧ K31 k n b = 0) := by
 unfold K31
 cases Kif k with
 | false => exact .inl ⟨rfl, rfl⟩
 | true =>
  by_cases h : (b.length : Int) > 65520
  ·exact .inr (.inl ⟨rfl, h, by rw [if_pos rfl, if_pos h]⟩)
  ·rw [if_pos rfl, if_neg h]
   cases inR n with
   | false => exact .inr (.inr (.inl ⟨rfl, h, rfl, rfl⟩))
   | true => exact .inr (.inr (.inr ⟨rfl, h, rfl, rfl⟩))
theorem Jkx {k : List UInt8} : Kif k = true ↔ 1 ≤ k.length ∧ k.length ≤ 64 := by simp only [Kif, decide_eq_true_eq]
theorem Qi3 {n : Int} {b : List UInt8} (h : ¬ (b.length : Int) > 65536) (k : inR n = false) : Qbv n b = 2 := by
 unfold Qbv; rw [if_neg h, k]; rfl
theorem Km4 {n : Int} {b : List UInt8} (h : ¬ (b.length : Int) > 65536) (k : inR n = true) : Qbv n b = 0 := by
 unfold Qbv; rw [if_neg h, k]; rfl
theorem Kzi {key : List UInt8} {n : Int} {b : List UInt8} (h : ¬ (b.length : Int) > 65536) (k : inR n = true) : Qoq key n b = Ke3 key n b := if_pos (Km4 h k)
theorem Kzj (k : List UInt8) (n : Int) (b : List UInt8) (_ : Klq k n b = true) : ∃ F, ∀ {X : Type} (fail : X) (ret : List UInt8 → Int → X), Ql6 F k n b fail ret = ret (Jru k n b) (Jwl k n b) := ⟨99, fun fail ret => by
 unfold Ql6 Jru Jwl Jni Qkc
 rcases K7j k n b with ⟨h, e⟩ | ⟨h, h1, e⟩ | ⟨h, h1, h2, e⟩ | ⟨h, h1, h2, e⟩ <;> rw [e, h]
 ·rw [Jaa (c := !false) rfl, if_neg (by omega)]
 ·rw [Jab (c := !true) rfl, Jaa (tt h1), if_neg (by omega)]
 ·have hk := Jkx.1 h
  have es : Jhn (Jgj k) n b = 2 := Qi3 (by omega) h2
  rw [Jab (c := !true) rfl, Jab (ff h1), if_neg (by omega), Jaa (c := Jrt k) (tt (by omega)), Jaa (c := Jnh _ _ _) rfl, es, Jaa (Jhl (by omega))]
 ·have hk := Jkx.1 h
  have hr := J4p.1 h2
  have es : Jhn (Jgj k) n b = 0 := Km4 (by omega) h2
  have ev : Jj7 (Jgj k) n b = Ke3 (K9p k) n b := Kzi (by omega) h2
  have hl : (Ke3 (K9p k) n b).length = b.length := Jsk _ _ _
  rw [Jab (c := !true) rfl, Jab (ff h1), if_pos rfl, Jaa (c := Jrt k) (tt (by omega)), Jaa (c := Jnh _ _ _) rfl, es, Jab (Jgm rfl), ev]
  refine (Qkt 99 fail _ n hr.1 k n b _ _ _ 8 98 0 rfl (by omega)).trans ?_
  have hl2 : (le8 n ++ Ke3 (K9p k) n b).length = 8 + b.length := by rw [List.length_append, Kzh, hl]
  rw [show Jh3 k = Jtr k from rfl, List.take_of_length_le (show (Jtr k).length ≤ 32 by rw [Jxq]; omega), Jaa (Jch (by omega)), Jaa (c := Jua (Jtr k) _) (tt (by rw [Jxq]; omega))]
  rw [show List.take 16 (J6b (Jtr k) (le8 n ++ Ke3 (K9p k) n b)) = Qg2 (Jtr k) n (Ke3 (K9p k) n b) from rfl, Jaa (Jch (by rw [List.length_append, J9h, hl]; omega))]⟩
theorem Kix (k : List UInt8) (n : Int) (b : List UInt8) : (Kif k = false ∧ Klp k n b = 1) ∨ (Kif k = true ∧ (b.length : Int) > 65536 ∧ Klp k n b = 5) ∨ (Kif k = true ∧ ¬ (b.length : Int) > 65536 ∧ inR n = false ∧ Klp k n b = 2) ∨ (Kif k = true ∧ ¬ (b.length : Int) > 65536 ∧ inR n = true ∧ b.length < 16 ∧ Klp k n b = 9) ∨
  (Kif k = true ∧ ¬ (b.length : Int) > 65536 ∧ inR n = true ∧ ¬ b.length < 16 ∧ Qg2 (Jtr k) n (b.take (b.length - 16)) ≠ b.drop (b.length - 16) ∧ Klp k n b = 25) ∨
  (Kif k = true ∧ ¬ (b.length : Int) > 65536 ∧ inR n = true ∧ ¬ b.length < 16 ∧ Qg2 (Jtr k) n (b.take (b.length - 16)) = b.drop (b.length - 16) ∧ Klp k n b = 0) := by
 unfold Klp
 cases Kif k with
 | false => exact .inl ⟨rfl, rfl⟩
 | true =>
  by_cases h : (b.length : Int) > 65536
  ·exact .inr (.inl ⟨rfl, h, by rw [if_pos rfl, if_pos h]⟩)
  ·rw [if_pos rfl, if_neg h]
   cases inR n with
   | false => exact .inr (.inr (.inl ⟨rfl, h, rfl, rfl⟩))
   | true =>
    by_cases h1 : b.length < 16
    ·exact .inr (.inr (.inr (.inl ⟨rfl, h, rfl, h1, by rw [if_pos rfl, if_pos h1]⟩)))
    ·by_cases h2 : Qg2 (Jtr k) n (b.take (b.length - 16)) = b.drop (b.length - 16)
     ·exact .inr (.inr (.inr (.inr (.inr ⟨rfl, h, rfl, h1, h2, by rw [if_pos rfl, if_neg h1, if_pos h2]⟩))))
     ·exact .inr (.inr (.inr (.inr (.inl ⟨rfl, h, rfl, h1, h2, by rw [if_pos rfl, if_neg h1, if_neg h2]⟩))))
theorem Kzk (k : List UInt8) (n : Int) (b : List UInt8) (_ : J4a k n b = true) : ∃ F, ∀ {X : Type} (fail : X) (ret : List UInt8 → Int → X), Ql7 F k n b fail ret = ret (Jjn k n b) (Jl5 k n b) := ⟨1, fun fail ret => by
 unfold Ql7 Jjn Jl5 Jni Jrs Qg3
 have sub : Jby (b.length : Int) 16 = (b.length : Int) - 16 ∨ (b.length : Int) > 65536 := by
  by_cases h : (b.length : Int) > 65536
  ·exact .inr h
  ·exact .inl (Jca (by omega) (by omega))
 rcases Kix k n b with ⟨h, e⟩ | ⟨h, h1, e⟩ | ⟨h, h1, h2, e⟩ | ⟨h, h1, h2, h3, e⟩ | ⟨h, h1, h2, h3, h4, e⟩ | ⟨h, h1, h2, h3, h4, e⟩ <;> rw [e, h]
 ·rw [Jaa (c := !false) rfl, if_neg (by omega)]
 ·rw [Jab (c := !true) rfl, Jaa (tt h1), if_neg (by omega)]
 ·rw [Jab (c := !true) rfl, Jab (ff h1), h2, Jaa (c := !false) rfl, if_neg (by omega)]
 ·have hs := sub.resolve_right h1
  rw [Jab (c := !true) rfl, Jab (ff h1), h2, Jab (c := !true) rfl, hs, Jaa (tt (by omega)), if_neg (by omega)]
 ·have hk := Jkx.1 h
  have hs : Jby (b.length : Int) 16 = ((b.length - 16 : Nat) : Int) := by rw [sub.resolve_right h1]; omega
  have ht : Ji5 (J6e (Jh3 k) n (b.take (b.length - 16))) (b.drop (b.length - 16)) = false := beq_eq_false_iff_ne.2 h4
  rw [Jab (c := !true) rfl, Jab (ff h1), h2, Jab (c := !true) rfl, hs, Int.toNat_natCast, Jab (ff (by omega)), if_neg (by omega), Jaa (c := Jrt k) (tt (by omega)), Jaa (tt2 (by omega) (by omega)), Jaa (c := J6d _ _ _) (by
   unfold J6d; rw [h2, Bool.true_and]; exact tt ⟨Jxq k, by rw [List.length_take]; omega⟩), Jaa (tt2 (by omega) (by omega)), Jaa (c := Ji4 _ _) (tt ⟨by rw [show (J6e (Jh3 k) n (b.take (b.length - 16))).length = 16 from J9h _ _ _]; omega, by rw [List.length_drop]; omega⟩), ht, Jaa (c := !false) rfl]
 ·have hk := Jkx.1 h
  have hs : Jby (b.length : Int) 16 = ((b.length - 16 : Nat) : Int) := by rw [sub.resolve_right h1]; omega
  have ht : Ji5 (J6e (Jh3 k) n (b.take (b.length - 16))) (b.drop (b.length - 16)) = true := beq_iff_eq.2 h4
  have hl : ¬ ((b.take (b.length - 16)).length : Int) > 65536 := by rw [List.length_take]; omega
  rw [Jab (c := !true) rfl, Jab (ff h1), h2, Jab (c := !true) rfl, hs, Int.toNat_natCast, Jab (ff (by omega)), if_pos rfl, Jaa (c := Jrt k) (tt (by omega)), Jaa (tt2 (by omega) (by omega)), Jaa (c := J6d _ _ _) (by
   unfold J6d; rw [h2, Bool.true_and]; exact tt ⟨Jxq k, by rw [List.length_take]; omega⟩), Jaa (tt2 (by omega) (by omega)), Jaa (c := Ji4 _ _) (tt ⟨by rw [show (J6e (Jh3 k) n (b.take (b.length - 16))).length = 16 from J9h _ _ _]; omega, by rw [List.length_drop]; omega⟩), ht, Jab (c := !true) rfl, Jaa (tt2 (by omega) (by omega)), Jaa (c := Jnh _ _ _) rfl]
  rw [show Jj7 (Jgj k) n (b.take (b.length - 16)) = Ke3 (K9p k) n (b.take (b.length - 16)) from Kzi hl h2, show Jhn (Jgj k) n (b.take (b.length - 16)) = 0 from Km4 hl h2]⟩
theorem Qdm {X : Type} (F : Nat) (fail : X) (ex : Int → List UInt8 → Int → List UInt8 → List UInt8 → X) (n : Int) (b key : List UInt8) (hk : key.length = 32) : ∀ (j m i : Nat), i + j = 32 → j ≤ m →
  Jw3 F fail ex (m + 1) n b i key (key.take i) = ex n b (32 : Nat) key key
 | 0, m, i, hi, _ => by
  have e : i = 32 := by omega
  subst e
  rw [Jw3, Kl2]
  rw [Jab (ff (by omega)), List.take_of_length_le (by omega)]
 | j + 1, 0, i, _, hm => absurd hm (by omega)
 | j + 1, m + 1, i, hi, hm => by
  have ih := Qdm F fail ex n b key hk j m (i + 1) (by omega) (by omega)
  rw [Jd9 key i 0 (by omega)] at ih
  rw [Jw3, Kl2, Int.toNat_natCast]
  rw [Jaa (tt (by omega)), Jaa (tt2 (by omega) (by omega)), Jaa (Jch (by rw [List.length_append, List.length_take]; show min i _ + 1 ≤ _; omega)), Jai (by omega) (by omega)]
  exact ih
theorem Qdn {X : Type} (F : Nat) (fail : X) (ex : Int → List UInt8 → List UInt8 → X) (d : List UInt8) (hd : d.length = 32) : ∀ (j m i : Nat), i + j = 16 → j ≤ m →
  Jw4 F fail ex (m + 1) i d (d.take i) = ex (16 : Nat) d (d.take 16)
 | 0, m, i, hi, _ => by
  have e : i = 16 := by omega
  subst e
  rw [Jw4, Kl3]
  rw [Jab (ff (by omega))]
 | j + 1, 0, i, _, hm => absurd hm (by omega)
 | j + 1, m + 1, i, hi, hm => by
  have ih := Qdn F fail ex d hd j m (i + 1) (by omega) (by omega)
  rw [Jd9 d i 0 (by omega)] at ih
  rw [Jw4, Kl3, Int.toNat_natCast]
  rw [Jaa (tt (by omega)), Jaa (tt2 (by omega) (by omega)), Jaa (Jch (by rw [List.length_append, List.length_take]; show min i _ + 1 ≤ _; omega)), Jai (by omega) (by omega)]
  exact ih
theorem K7k (key : List UInt8) (n : Int) (b : List UInt8) (h : J6f key n b = true) : ∃ F, ∀ {X : Type} (fail : X) (ret : List UInt8 → X), rTag F key n b fail ret = ret (Kq6 key n b) := ⟨99, fun fail ret => by
 simp only [J6f, Bool.and_eq_true, decide_eq_true_eq] at h
 have hr := J4p.1 h.1
 have hl : (le8 n ++ b).length = 8 + b.length := by rw [List.length_append, Kzh]
 unfold rTag
 refine (Qdm 99 fail _ n b key h.2.1 32 98 0 rfl (by omega)).trans ?_
 rw [show Jjo n 8 = le8 n from rfl, Jaa (c := Jnj n 8) (tt (by omega)), Jaa (Jch (by omega)), Jaa (c := J1e key _) (tt (by omega))]
 exact Qdn 99 fail _ _ (Kmr _ _) 16 98 0 rfl (by omega)⟩
theorem Kzl (k : List UInt8) (n : Int) (b : List UInt8) (_ : J4c k n b = true) : ∃ F, ∀ {X : Type} (fail : X) (ret : List UInt8 → Int → X), Ql9 F k n b fail ret = ret (Jho k n b) (Jjr k n b) := ⟨1, fun fail ret => by
 unfold Ql9 Jho Jjr Jjp Qg3
 rcases Kix k n b with ⟨h, e⟩ | ⟨h, h1, e⟩ | ⟨h, h1, h2, e⟩ | ⟨h, h1, h2, h3, e⟩ | ⟨h, h1, h2, h3, h4, e⟩ | ⟨h, h1, h2, h3, h4, e⟩ <;> rw [e]
 ·have hk : ¬ (1 ≤ k.length ∧ k.length ≤ 64) := fun c => by rw [Jkx.2 c] at h; cases h
  rw [if_neg (by omega)]
  by_cases c : (k.length : Int) < 1
  ·rw [Jaa (tt c)]
  ·rw [Jab (ff c), Jaa (tt (by omega))]
 ·have hk := Jkx.1 h
  rw [Jab (ff (by omega)), Jab (ff (by omega)), Jaa (tt h1), if_neg (by omega)]
 ·have hk := Jkx.1 h
  rw [Jab (ff (by omega)), Jab (ff (by omega)), Jab (ff h1), h2, Jaa (c := !false) rfl, if_neg (by omega)]
 ·have hk := Jkx.1 h
  rw [Jab (ff (by omega)), Jab (ff (by omega)), Jab (ff h1), h2, Jab (c := !true) rfl, Jaa (tt (by omega)), if_neg (by omega)]
 ·have hk := Jkx.1 h
  have hs : Jby (b.length : Int) 16 = ((b.length - 16 : Nat) : Int) := by rw [Jca (by omega) (by omega)]; omega
  have ht : (Kq6 (Jwn k) n (b.take (b.length - 16)) == b.drop (b.length - 16)) = false := beq_eq_false_iff_ne.2 h4
  rw [Jab (ff (by omega)), Jab (ff (by omega)), Jab (ff h1), h2, Jab (c := !true) rfl, hs, Int.toNat_natCast, Jab (ff (by omega)), if_neg (by omega), Jaa (c := J4b k) (tt (by omega)), Jaa (tt2 (by omega) (by omega)), Jaa (c := J6f _ _ _) (by
   unfold J6f; rw [h2, Bool.true_and]; exact tt ⟨Jxq k, by rw [List.length_take]; omega⟩), Jaa (tt2 (by omega) (by omega)), ht, Jaa (c := !false) rfl]
 ·have hk := Jkx.1 h
  have hs : Jby (b.length : Int) 16 = ((b.length - 16 : Nat) : Int) := by rw [Jca (by omega) (by omega)]; omega
  have ht : (Kq6 (Jwn k) n (b.take (b.length - 16)) == b.drop (b.length - 16)) = true := beq_iff_eq.2 h4
  have hl : ¬ ((b.take (b.length - 16)).length : Int) > 65536 := by rw [List.length_take]; omega
  rw [Jab (ff (by omega)), Jab (ff (by omega)), Jab (ff h1), h2, Jab (c := !true) rfl, hs, Int.toNat_natCast, Jab (ff (by omega)), if_pos rfl, Jaa (c := J4b k) (tt (by omega)), Jaa (tt2 (by omega) (by omega)), Jaa (c := J6f _ _ _) (by
   unfold J6f; rw [h2, Bool.true_and]; exact tt ⟨Jxq k, by rw [List.length_take]; omega⟩), Jaa (tt2 (by omega) (by omega)), ht, Jab (c := !true) rfl, Jaa (tt2 (by omega) (by omega)), Jaa (c := J1f _ _ _) rfl]
  rw [show Jp8 (Jrv k) n (b.take (b.length - 16)) = Ke3 (K9p k) n (b.take (b.length - 16)) from Kzi hl h2, show Jp9 (Jrv k) n (b.take (b.length - 16)) = 0 from Km4 hl h2]⟩
end Go.AI
