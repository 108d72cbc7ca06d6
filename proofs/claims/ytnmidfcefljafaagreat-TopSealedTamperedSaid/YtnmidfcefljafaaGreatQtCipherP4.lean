/- Texts of the proof, joined: CipherP4. -/
import Derived.Test.YtnmidfcefljafaaGreatQtG
import Derived.Test.YtnmidfcefljafaaGreatQtCipherP3
namespace Go.AI
open Go
theorem equal_loop {X : Type} (F : Nat) (fail : X) (ex0 ex1 : List UInt8 → List UInt8 → Bool → Int → Int → X) (k : Bool → X) (a b : List UInt8) (hl : a.length = b.length) (ha : a.length ≤ 1000000000000)
  (h0 : ∀ x y z u, ex0 x y false z u = k false) (h1 : ∀ x y z u v, ex1 x y z u v = k true) : ∀ (j m i : Nat) (s4 : Bool), i + j = a.length → j < m →
  equal_byte_l1F F fail ex0 ex1 m a b s4 (a.length : Nat) i = k (a.drop i == b.drop i)
 | 0, m + 1, i, s4, e1, e2 => by
  simp only [equal_byte_l1F, equal_byte_l1]
  rw [bif_false (ff (by omega)), h1, List.drop_eq_nil_of_le (by omega), List.drop_eq_nil_of_le (by omega)]; rfl
 | j + 1, m + 1, i, s4, e1, e2 => by
  simp only [equal_byte_l1F, equal_byte_l1]
  have e3 : a.drop i = a.getD i 0 :: a.drop (i + 1) := by rw [List.drop_eq_getElem_cons (by omega), getD_ltd (by omega)]
  have e4 : b.drop i = b.getD i 0 :: b.drop (i + 1) := by rw [List.drop_eq_getElem_cons (by omega), getD_ltd (by omega)]
  rw [bif_true (tt (by omega)), bif_true (tt2 (by omega) (by omega)), bif_true (tt2 (by omega) (by omega)), Int.toNat_natCast, e3, e4]
  by_cases h : a.getD i 0 = b.getD i 0
  ·rw [bif_false (bne_f (by rw [h])), addI_eq (by omega) (by omega), h, List.cons_beq_cons, beq_self_eq_true, Bool.true_and]
   exact equal_loop F fail ex0 ex1 k a b hl ha h0 h1 j m (i + 1) s4 (by omega) (by omega)
  ·rw [bif_true (bne_t (fun e => h (UInt8.toNat_inj.1 (by omega)))), h0, List.cons_beq_cons, beq_eq_false_iff_ne.2 h, Bool.false_and]
theorem equal_byte_plain (a b : List UInt8) (h : equal_byte_P a b = true) : ∃ F, ∀ {X : Type} (fail : X) (ret : Bool → X), equal_byte F a b fail ret = ret (equal_byte_r a b) := ⟨a.length + 1, fun fail ret => by
 simp only [equal_byte_P, decide_eq_true_eq] at h
 unfold equal_byte equal_byte_r
 by_cases hl : a.length = b.length
 ·rw [bif_false (bne_f (by omega))]
  exact equal_loop (a.length + 1) fail _ _ ret a b hl h.1 (fun _ _ _ _ => rfl) (fun _ _ _ _ _ => rfl) a.length _ 0 false (by omega) (by omega)
 ·rw [bif_true (bne_t (by omega))]
  have : (a == b) = false := by
   rw [beq_eq_false_iff_ne]
   rintro rfl; exact hl rfl
  rw [this]⟩
theorem cKeys_plain (k : List UInt8) (h : cKeys_P k = true) : ∃ F, ∀ {X : Type} (fail : X) (ret : List UInt8 → List UInt8 → X), cKeys F k fail ret = ret (cKeys_r0 k) (cKeys_r1 k) := ⟨1, fun fail ret => by
 simp only [cKeys_P, decide_eq_true_eq] at h
 unfold cKeys
 rw [bif_true (c := dMac_P k _) (tt ⟨h, by simp⟩), bif_true (c := dMac_P k _) (tt ⟨h, by simp⟩)]
 rfl⟩
theorem le8_len (n : Int) : (le8 n).length = 8 := litTo_len _ 8
theorem shr_byte (n : Int) (h0 : 0 ≤ n) (i : Nat) (hi : i < 8) : cvIB (shrI n (mulI 8 (i : Int))) = UInt8.ofNat (n.toNat / 2 ^ (8 * i) % 256) := by
 rw [show mulI 8 (i : Int) = ((8 * i : Nat) : Int) by rw [mulI_eq (by omega) (by omega)]; omega, shrI_eq (by omega) (by omega), cvIB_eq, Int.toNat_natCast]
 obtain ⟨N, rfl⟩ : ∃ N : Nat, n = N := ⟨n.toNat, by omega⟩
 rw [Int.toNat_natCast, show (2 : Int) ^ (8 * i) = ((2 ^ (8 * i) : Nat) : Int) by push_cast; rfl, ← Int.natCast_ediv]
 generalize N / 2 ^ (8 * i) = q
 congr 1
theorem tag_l1 {X : Type} (F : Nat) (fail : X) (ex : Int → List UInt8 → Int → List UInt8 → List UInt8 → X) (n : Int) (h0 : 0 ≤ n) (b key : List UInt8) : ∀ (j m i : Nat), i + j = 8 → j ≤ m →
  cTag_l1F F fail ex (m + 1) n b i key (litTo n.toNat i) = ex n b (8 : Nat) key (le8 n)
 | 0, m, i, hi, _ => by
  have e : i = 8 := by omega
  subst e
  rw [cTag_l1F, cTag_l1]
  rw [bif_false (ff (by omega))]; rfl
 | j + 1, 0, i, _, hm => absurd hm (by omega)
 | j + 1, m + 1, i, hi, hm => by
  have ih := tag_l1 F fail ex n h0 b key j m (i + 1) (by omega) (by omega)
  rw [cTag_l1F, cTag_l1]
  simp only [shr_byte n h0 i (by omega), ← litTo_succ]
  rw [bif_true (tt (by omega)), bif_true (tt (by rw [mulI_eq (by omega) (by omega)]; omega)), bif_true (le_big (by rw [litTo_len]; omega)), addI_eq (by omega) (by omega)]
  exact ih
theorem cTag_plain (key : List UInt8) (n : Int) (b : List UInt8) (h : cTag_P key n b = true) : ∃ F, ∀ {X : Type} (fail : X) (ret : List UInt8 → X), cTag F key n b fail ret = ret (cTag_r key n b) := ⟨99, fun fail ret => by
 simp only [cTag_P, Bool.and_eq_true, decide_eq_true_eq] at h
 have hr := inR_iff.1 h.1
 have hl : (le8 n ++ b).length = 8 + b.length := by rw [List.length_append, le8_len]
 unfold cTag
 refine (tag_l1 99 fail _ n hr.1 b key 8 98 0 rfl (by omega)).trans ?_
 rw [List.take_of_length_le (show key.length ≤ 32 by omega), bif_true (le_big (by omega)), bif_true (c := dMac_P key _) (tt (by omega))]
 rfl⟩
theorem sea_l1 {X : Type} (F : Nat) (fail : X) (ex : Int → Int → List UInt8 → Int → List UInt8 → List UInt8 → List UInt8 → List UInt8 → List UInt8 → X) (n : Int) (h0 : 0 ≤ n) (k : List UInt8) (n' : Int) (b c key au : List UInt8) : ∀ (j m i : Nat), i + j = 8 → j ≤ m →
  cSeal_l1F F fail ex (m + 1) n i k n' b c key (litTo n.toNat i) au = ex n (8 : Nat) k n' b c key (le8 n) au
 | 0, m, i, hi, _ => by
  have e : i = 8 := by omega
  subst e
  rw [cSeal_l1F, cSeal_l1]
  rw [bif_false (ff (by omega))]; rfl
 | j + 1, 0, i, _, hm => absurd hm (by omega)
 | j + 1, m + 1, i, hi, hm => by
  have ih := sea_l1 F fail ex n h0 k n' b c key au j m (i + 1) (by omega) (by omega)
  rw [cSeal_l1F, cSeal_l1]
  simp only [shr_byte n h0 i (by omega), ← litTo_succ]
  rw [bif_true (tt (by omega)), bif_true (tt (by rw [mulI_eq (by omega) (by omega)]; omega)), bif_true (le_big (by rw [litTo_len]; omega)), addI_eq (by omega) (by omega)]
  exact ih
theorem cUsable_plain (k : List UInt8) : ∃ F, ∀ {X : Type} (fail : X) (ret : Bool → X), cUsable F k fail ret = ret (cUsable_r k) := ⟨1, fun fail ret => by
 unfold cUsable cUsable_r useK
 by_cases h : (k.length : Int) ≥ 1
 ·rw [bif_true (tt h)]; congr 1
  by_cases c : (k.length : Int) ≤ 64
  ·rw [tt c, tt (by omega)]
  ·rw [ff c, ff (by omega)]
 ·rw [bif_false (ff h), ff (by omega)]⟩
theorem key1_len (k : List UInt8) : (key1 k).length = 32 := macH_len _ _
theorem tagS_len (k : List UInt8) (n : Int) (b : List UInt8) : (tagS k n b).length = 16 := by
 unfold tagS; rw [List.length_take, macH_len]; omega
theorem seaE_cases (k : List UInt8) (n : Int) (b : List UInt8) : (useK k = false ∧ seaE k n b = 1) ∨ (useK k = true ∧ (b.length : Int) > 65520 ∧ seaE k n b = 5) ∨ (useK k = true ∧ ¬ (b.length : Int) > 65520 ∧ inR n = false ∧ seaE k n b = 2) ∨ (useK k = true ∧ ¬ (b.length : Int) > 65520 ∧ inR n = true ∧ seaE k n b = 0) := by
 unfold seaE
 cases useK k with
 | false => exact .inl ⟨rfl, rfl⟩
 | true =>
  by_cases h : (b.length : Int) > 65520
  ·exact .inr (.inl ⟨rfl, h, by rw [if_pos rfl, if_pos h]⟩)
  ·rw [if_pos rfl, if_neg h]
   cases inR n with
   | false => exact .inr (.inr (.inl ⟨rfl, h, rfl, rfl⟩))
   | true => exact .inr (.inr (.inr ⟨rfl, h, rfl, rfl⟩))
theorem useK_iff {k : List UInt8} : useK k = true ↔ 1 ≤ k.length ∧ k.length ≤ 64 := by simp only [useK, decide_eq_true_eq]
theorem strE_two {n : Int} {b : List UInt8} (h : ¬ (b.length : Int) > 65536) (k : inR n = false) : strE n b = 2 := by
 unfold strE; rw [if_neg h, k]; rfl
theorem strE_ok {n : Int} {b : List UInt8} (h : ¬ (b.length : Int) > 65536) (k : inR n = true) : strE n b = 0 := by
 unfold strE; rw [if_neg h, k]; rfl
theorem strV_ok {key : List UInt8} {n : Int} {b : List UInt8} (h : ¬ (b.length : Int) > 65536) (k : inR n = true) : strV key n b = strS key n b := if_pos (strE_ok h k)
theorem cSeal_plain (k : List UInt8) (n : Int) (b : List UInt8) (_ : cSeal_P k n b = true) : ∃ F, ∀ {X : Type} (fail : X) (ret : List UInt8 → Int → X), cSeal F k n b fail ret = ret (cSeal_r0 k n b) (cSeal_r1 k n b) := ⟨99, fun fail ret => by
 unfold cSeal cSeal_r0 cSeal_r1 cUsable_r seaV
 rcases seaE_cases k n b with ⟨h, e⟩ | ⟨h, h1, e⟩ | ⟨h, h1, h2, e⟩ | ⟨h, h1, h2, e⟩ <;> rw [e, h]
 ·rw [bif_true (c := !false) rfl, if_neg (by omega)]
 ·rw [bif_false (c := !true) rfl, bif_true (tt h1), if_neg (by omega)]
 ·have hk := useK_iff.1 h
  have es : cStream_r1 (cKeys_r0 k) n b = 2 := strE_two (by omega) h2
  rw [bif_false (c := !true) rfl, bif_false (ff h1), if_neg (by omega), bif_true (c := cKeys_P k) (tt (by omega)), bif_true (c := cStream_P _ _ _) rfl, es, bif_true (bne_t (by omega))]
 ·have hk := useK_iff.1 h
  have hr := inR_iff.1 h2
  have es : cStream_r1 (cKeys_r0 k) n b = 0 := strE_ok (by omega) h2
  have ev : cStream_r0 (cKeys_r0 k) n b = strS (key0 k) n b := strV_ok (by omega) h2
  have hl : (strS (key0 k) n b).length = b.length := strS_len _ _ _
  rw [bif_false (c := !true) rfl, bif_false (ff h1), if_pos rfl, bif_true (c := cKeys_P k) (tt (by omega)), bif_true (c := cStream_P _ _ _) rfl, es, bif_false (bne_f rfl), ev]
  refine (sea_l1 99 fail _ n hr.1 k n b _ _ _ 8 98 0 rfl (by omega)).trans ?_
  have hl2 : (le8 n ++ strS (key0 k) n b).length = 8 + b.length := by rw [List.length_append, le8_len, hl]
  rw [show cKeys_r1 k = key1 k from rfl, List.take_of_length_le (show (key1 k).length ≤ 32 by rw [key1_len]; omega), bif_true (le_big (by omega)), bif_true (c := dMac_P (key1 k) _) (tt (by rw [key1_len]; omega))]
  rw [show List.take 16 (dMac_r (key1 k) (le8 n ++ strS (key0 k) n b)) = tagS (key1 k) n (strS (key0 k) n b) from rfl, bif_true (le_big (by rw [List.length_append, tagS_len, hl]; omega))]⟩
theorem opeE_cases (k : List UInt8) (n : Int) (b : List UInt8) : (useK k = false ∧ opeE k n b = 1) ∨ (useK k = true ∧ (b.length : Int) > 65536 ∧ opeE k n b = 5) ∨ (useK k = true ∧ ¬ (b.length : Int) > 65536 ∧ inR n = false ∧ opeE k n b = 2) ∨ (useK k = true ∧ ¬ (b.length : Int) > 65536 ∧ inR n = true ∧ b.length < 16 ∧ opeE k n b = 9) ∨
  (useK k = true ∧ ¬ (b.length : Int) > 65536 ∧ inR n = true ∧ ¬ b.length < 16 ∧ tagS (key1 k) n (b.take (b.length - 16)) ≠ b.drop (b.length - 16) ∧ opeE k n b = 25) ∨
  (useK k = true ∧ ¬ (b.length : Int) > 65536 ∧ inR n = true ∧ ¬ b.length < 16 ∧ tagS (key1 k) n (b.take (b.length - 16)) = b.drop (b.length - 16) ∧ opeE k n b = 0) := by
 unfold opeE
 cases useK k with
 | false => exact .inl ⟨rfl, rfl⟩
 | true =>
  by_cases h : (b.length : Int) > 65536
  ·exact .inr (.inl ⟨rfl, h, by rw [if_pos rfl, if_pos h]⟩)
  ·rw [if_pos rfl, if_neg h]
   cases inR n with
   | false => exact .inr (.inr (.inl ⟨rfl, h, rfl, rfl⟩))
   | true =>
    by_cases h1 : b.length < 16
    ·exact .inr (.inr (.inr (.inl ⟨rfl, h, rfl, h1, by rw [if_pos rfl, if_pos h1]⟩)))
    ·by_cases h2 : tagS (key1 k) n (b.take (b.length - 16)) = b.drop (b.length - 16)
     ·exact .inr (.inr (.inr (.inr (.inr ⟨rfl, h, rfl, h1, h2, by rw [if_pos rfl, if_neg h1, if_pos h2]⟩))))
     ·exact .inr (.inr (.inr (.inr (.inl ⟨rfl, h, rfl, h1, h2, by rw [if_pos rfl, if_neg h1, if_neg h2]⟩))))
theorem cOpen_plain (k : List UInt8) (n : Int) (b : List UInt8) (_ : cOpen_P k n b = true) : ∃ F, ∀ {X : Type} (fail : X) (ret : List UInt8 → Int → X), cOpen F k n b fail ret = ret (cOpen_r0 k n b) (cOpen_r1 k n b) := ⟨1, fun fail ret => by
 unfold cOpen cOpen_r0 cOpen_r1 cUsable_r cRange_r opeV
 have sub : subI (b.length : Int) 16 = (b.length : Int) - 16 ∨ (b.length : Int) > 65536 := by
  by_cases h : (b.length : Int) > 65536
  ·exact .inr h
  ·exact .inl (subI_eq (by omega) (by omega))
 rcases opeE_cases k n b with ⟨h, e⟩ | ⟨h, h1, e⟩ | ⟨h, h1, h2, e⟩ | ⟨h, h1, h2, h3, e⟩ | ⟨h, h1, h2, h3, h4, e⟩ | ⟨h, h1, h2, h3, h4, e⟩ <;> rw [e, h]
 ·rw [bif_true (c := !false) rfl, if_neg (by omega)]
 ·rw [bif_false (c := !true) rfl, bif_true (tt h1), if_neg (by omega)]
 ·rw [bif_false (c := !true) rfl, bif_false (ff h1), h2, bif_true (c := !false) rfl, if_neg (by omega)]
 ·have hs := sub.resolve_right h1
  rw [bif_false (c := !true) rfl, bif_false (ff h1), h2, bif_false (c := !true) rfl, hs, bif_true (tt (by omega)), if_neg (by omega)]
 ·have hk := useK_iff.1 h
  have hs : subI (b.length : Int) 16 = ((b.length - 16 : Nat) : Int) := by rw [sub.resolve_right h1]; omega
  have ht : equal_byte_r (cTag_r (cKeys_r1 k) n (b.take (b.length - 16))) (b.drop (b.length - 16)) = false := beq_eq_false_iff_ne.2 h4
  rw [bif_false (c := !true) rfl, bif_false (ff h1), h2, bif_false (c := !true) rfl, hs, Int.toNat_natCast, bif_false (ff (by omega)), if_neg (by omega), bif_true (c := cKeys_P k) (tt (by omega)), bif_true (tt2 (by omega) (by omega)), bif_true (c := cTag_P _ _ _) (by
   unfold cTag_P; rw [h2, Bool.true_and]; exact tt ⟨key1_len k, by rw [List.length_take]; omega⟩), bif_true (tt2 (by omega) (by omega)), bif_true (c := equal_byte_P _ _) (tt ⟨by rw [show (cTag_r (cKeys_r1 k) n (b.take (b.length - 16))).length = 16 from tagS_len _ _ _]; omega, by rw [List.length_drop]; omega⟩), ht, bif_true (c := !false) rfl]
 ·have hk := useK_iff.1 h
  have hs : subI (b.length : Int) 16 = ((b.length - 16 : Nat) : Int) := by rw [sub.resolve_right h1]; omega
  have ht : equal_byte_r (cTag_r (cKeys_r1 k) n (b.take (b.length - 16))) (b.drop (b.length - 16)) = true := beq_iff_eq.2 h4
  have hl : ¬ ((b.take (b.length - 16)).length : Int) > 65536 := by rw [List.length_take]; omega
  rw [bif_false (c := !true) rfl, bif_false (ff h1), h2, bif_false (c := !true) rfl, hs, Int.toNat_natCast, bif_false (ff (by omega)), if_pos rfl, bif_true (c := cKeys_P k) (tt (by omega)), bif_true (tt2 (by omega) (by omega)), bif_true (c := cTag_P _ _ _) (by
   unfold cTag_P; rw [h2, Bool.true_and]; exact tt ⟨key1_len k, by rw [List.length_take]; omega⟩), bif_true (tt2 (by omega) (by omega)), bif_true (c := equal_byte_P _ _) (tt ⟨by rw [show (cTag_r (cKeys_r1 k) n (b.take (b.length - 16))).length = 16 from tagS_len _ _ _]; omega, by rw [List.length_drop]; omega⟩), ht, bif_false (c := !true) rfl, bif_true (tt2 (by omega) (by omega)), bif_true (c := cStream_P _ _ _) rfl]
  rw [show cStream_r0 (cKeys_r0 k) n (b.take (b.length - 16)) = strS (key0 k) n (b.take (b.length - 16)) from strV_ok hl h2, show cStream_r1 (cKeys_r0 k) n (b.take (b.length - 16)) = 0 from strE_ok hl h2]⟩
end Go.AI
