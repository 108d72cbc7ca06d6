/- Texts of the proof, joined: CipherP4. -/
import Derived.Test.YtcdajbmgoafnkaaGreatQcG
import Derived.Test.YtcdajbmgoafnkaaGreatQcCipherP3
namespace Go.AI
open Go
theorem cKeys_plain (k : List UInt8) (h : cKeys_P k = true) : ∃ F, ∀ {X : Type} (fail : X) (ret : List UInt8 → List UInt8 → X), cKeys F k fail ret = ret (cKeys_r0 k) (cKeys_r1 k) := ⟨1, fun fail ret => by
 simp only [cKeys_P, decide_eq_true_eq] at h
 unfold cKeys
 rw [bif_true (c := dMac_P k _) (tt ⟨h, by simp⟩), bif_true (c := dMac_P k _) (tt ⟨h, by simp⟩)]
 rfl⟩
theorem rKeys_plain (k : List UInt8) (h : rKeys_P k = true) : ∃ F, ∀ {X : Type} (fail : X) (ret : List UInt8 → List UInt8 → X), rKeys F k fail ret = ret (rKeys_r0 k) (rKeys_r1 k) := ⟨1, fun fail ret => by
 simp only [rKeys_P, decide_eq_true_eq] at h
 unfold rKeys
 rw [bif_true (c := rMac_P k _) (tt ⟨h, by simp⟩), bif_true (c := rMac_P k _) (tt ⟨h, by simp⟩)]
 rfl⟩
theorem le8_len (n : Int) : (le8 n).length = 8 := litTo_len _ 8
theorem shr_byte (n : Int) (h0 : 0 ≤ n) (i : Nat) (hi : i < 8) : cvIB (shrI n (mulI 8 (i : Int))) = UInt8.ofNat (n.toNat / 2 ^ (8 * i) % 256) := by
 rw [show mulI 8 (i : Int) = ((8 * i : Nat) : Int) by rw [mulI_eq (by omega) (by omega)]; omega, shrI_eq (by omega) (by omega), cvIB_eq, Int.toNat_natCast]
 obtain ⟨N, rfl⟩ : ∃ N : Nat, n = N := ⟨n.toNat, by omega⟩
 rw [Int.toNat_natCast, show (2 : Int) ^ (8 * i) = ((2 ^ (8 * i) : Nat) : Int) by push_cast; rfl, ← Int.natCast_ediv]
 generalize N / 2 ^ (8 * i) = q
 congr 1
theorem sea_l1 {X : Type} (F : Nat) (fail : X) (ex : Int → Int → List UInt8 → Int → List UInt8 → List UInt8 → List UInt8 → List UInt8 → List UInt8 → X) (n : Int) (h0 : 0 ≤ n) (k : List UInt8) (n' : Int) (b c key au : List UInt8) : ∀ (j m i : Nat), i + j = 8 → j ≤ m →
  cSeal_l1F F fail ex (m + 1) n i k n' b c key (litTo n.toNat i) au = ex n (8 : Nat) k n' b c key (le8 n) au
 | 0, m, i, hi, _ => by
  have e : i = 8 := by omega
  subst e
  rw [cSeal_l1F, cSeal_l1]
  rw [bif_false (ff (by omega))]; rfl
 | j + 1, 0, i, _, hm => absurd hm (by omega)
 | j + 1, m + 1, i, hi, hm => by
  have ih := sea_l1 F fail ex n h0 k n' b c key au j m (i + 1) (by omega) (by omega)
  rw [cSeal_l1F, cSeal_l1]
  simp only [shr_byte n h0 i (by omega), ← litTo_succ]
  rw [bif_true (tt (by omega)), bif_true (tt (by rw [mulI_eq (by omega) (by omega)]; omega)), bif_true (le_big (by rw [litTo_len]; omega)), addI_eq (by omega) (by omega)]
  exact ih
theorem cUsable_plain (k : List UInt8) : ∃ F, ∀ {X : Type} (fail : X) (ret : Bool → X), cUsable F k fail ret = ret (cUsable_r k) := ⟨1, fun fail ret => by
 unfold cUsable cUsable_r useK
 by_cases h : (k.length : Int) ≥ 1
 ·rw [bif_true (tt h)]; congr 1
  by_cases c : (k.length : Int) ≤ 64
  ·rw [tt c, tt (by omega)]
  ·rw [ff c, ff (by omega)]
 ·rw [bif_false (ff h), ff (by omega)]⟩
theorem key1_len (k : List UInt8) : (key1 k).length = 32 := macH_len _ _
theorem tagS_len (k : List UInt8) (n : Int) (b : List UInt8) : (tagS k n b).length = 16 := by
 unfold tagS; rw [List.length_take, macH_len]; omega
theorem seaE_cases (k : List UInt8) (n : Int) (b : List UInt8) : (useK k = false ∧ seaE k n b = 1) ∨ (useK k = true ∧ (b.length : Int) > 65520 ∧ seaE k n b = 5) ∨ (useK k = true ∧ ¬ (b.length : Int) > 65520 ∧ inR n = false ∧ seaE k n b = 2) ∨ (useK k = true ∧ ¬ (b.length : Int) > 65520 ∧ inR n = true ∧ seaE k n b = 0) := by
 unfold seaE
 cases useK k with
 | false => exact .inl ⟨rfl, rfl⟩
 | true =>
  by_cases h : (b.length : Int) > 65520
  ·exact .inr (.inl ⟨rfl, h, by rw [if_pos rfl, if_pos h]⟩)
  ·rw [if_pos rfl, if_neg h]
   cases inR n with
   | false => exact .inr (.inr (.inl ⟨rfl, h, rfl, rfl⟩))
   | true => exact .inr (.inr (.inr ⟨rfl, h, rfl, rfl⟩))
theorem useK_iff {k : List UInt8} : useK k = true ↔ 1 ≤ k.length ∧ k.length ≤ 64 := by simp only [useK, decide_eq_true_eq]
theorem strE_two {n : Int} {b : List UInt8} (h : ¬ (b.length : Int) > 65536) (k : inR n = false) : strE n b = 2 := by
 unfold strE; rw [if_neg h, k]; rfl
theorem strE_ok {n : Int} {b : List UInt8} (h : ¬ (b.length : Int) > 65536) (k : inR n = true) : strE n b = 0 := by
 unfold strE; rw [if_neg h, k]; rfl
theorem strV_ok {key : List UInt8} {n : Int} {b : List UInt8} (h : ¬ (b.length : Int) > 65536) (k : inR n = true) : strV key n b = strS key n b := if_pos (strE_ok h k)
theorem cSeal_plain (k : List UInt8) (n : Int) (b : List UInt8) (_ : cSeal_P k n b = true) : ∃ F, ∀ {X : Type} (fail : X) (ret : List UInt8 → Int → X), cSeal F k n b fail ret = ret (cSeal_r0 k n b) (cSeal_r1 k n b) := ⟨99, fun fail ret => by
 unfold cSeal cSeal_r0 cSeal_r1 cUsable_r seaV
 rcases seaE_cases k n b with ⟨h, e⟩ | ⟨h, h1, e⟩ | ⟨h, h1, h2, e⟩ | ⟨h, h1, h2, e⟩ <;> rw [e, h]
 ·rw [bif_true (c := !false) rfl, if_neg (by omega)]
 ·rw [bif_false (c := !true) rfl, bif_true (tt h1), if_neg (by omega)]
 ·have hk := useK_iff.1 h
  have es : cStream_r1 (cKeys_r0 k) n b = 2 := strE_two (by omega) h2
  rw [bif_false (c := !true) rfl, bif_false (ff h1), if_neg (by omega), bif_true (c := cKeys_P k) (tt (by omega)), bif_true (c := cStream_P _ _ _) rfl, es, bif_true (bne_t (by omega))]
 ·have hk := useK_iff.1 h
  have hr := inR_iff.1 h2
  have es : cStream_r1 (cKeys_r0 k) n b = 0 := strE_ok (by omega) h2
  have ev : cStream_r0 (cKeys_r0 k) n b = strS (key0 k) n b := strV_ok (by omega) h2
  have hl : (strS (key0 k) n b).length = b.length := strS_len _ _ _
  rw [bif_false (c := !true) rfl, bif_false (ff h1), if_pos rfl, bif_true (c := cKeys_P k) (tt (by omega)), bif_true (c := cStream_P _ _ _) rfl, es, bif_false (bne_f rfl), ev]
  refine (sea_l1 99 fail _ n hr.1 k n b _ _ _ 8 98 0 rfl (by omega)).trans ?_
  have hl2 : (le8 n ++ strS (key0 k) n b).length = 8 + b.length := by rw [List.length_append, le8_len, hl]
  rw [show cKeys_r1 k = key1 k from rfl, List.take_of_length_le (show (key1 k).length ≤ 32 by rw [key1_len]; omega), bif_true (le_big (by omega)), bif_true (c := dMac_P (key1 k) _) (tt (by rw [key1_len]; omega))]
  rw [show List.take 16 (dMac_r (key1 k) (le8 n ++ strS (key0 k) n b)) = tagS (key1 k) n (strS (key0 k) n b) from rfl, bif_true (le_big (by rw [List.length_append, tagS_len, hl]; omega))]⟩
theorem rtag_l1 {X : Type} (F : Nat) (fail : X) (ex : Int → List UInt8 → Int → List UInt8 → List UInt8 → X) (n : Int) (b key : List UInt8) (hk : key.length = 32) : ∀ (j m i : Nat), i + j = 32 → j ≤ m →
  rTag_l1F F fail ex (m + 1) n b i key (key.take i) = ex n b (32 : Nat) key key
 | 0, m, i, hi, _ => by
  have e : i = 32 := by omega
  subst e
  rw [rTag_l1F, rTag_l1]
  rw [bif_false (ff (by omega)), List.take_of_length_le (by omega)]
 | j + 1, 0, i, _, hm => absurd hm (by omega)
 | j + 1, m + 1, i, hi, hm => by
  have ih := rtag_l1 F fail ex n b key hk j m (i + 1) (by omega) (by omega)
  rw [take_snoc key i 0 (by omega)] at ih
  rw [rTag_l1F, rTag_l1, Int.toNat_natCast]
  rw [bif_true (tt (by omega)), bif_true (tt2 (by omega) (by omega)), bif_true (le_big (by rw [List.length_append, List.length_take]; show min i _ + 1 ≤ _; omega)), addI_eq (by omega) (by omega)]
  exact ih
theorem rtag_l2 {X : Type} (F : Nat) (fail : X) (ex : Int → List UInt8 → List UInt8 → X) (d : List UInt8) (hd : d.length = 32) : ∀ (j m i : Nat), i + j = 16 → j ≤ m →
  rTag_l2F F fail ex (m + 1) i d (d.take i) = ex (16 : Nat) d (d.take 16)
 | 0, m, i, hi, _ => by
  have e : i = 16 := by omega
  subst e
  rw [rTag_l2F, rTag_l2]
  rw [bif_false (ff (by omega))]
 | j + 1, 0, i, _, hm => absurd hm (by omega)
 | j + 1, m + 1, i, hi, hm => by
  have ih := rtag_l2 F fail ex d hd j m (i + 1) (by omega) (by omega)
  rw [take_snoc d i 0 (by omega)] at ih
  rw [rTag_l2F, rTag_l2, Int.toNat_natCast]
  rw [bif_true (tt (by omega)), bif_true (tt2 (by omega) (by omega)), bif_true (le_big (by rw [List.length_append, List.length_take]; show min i _ + 1 ≤ _; omega)), addI_eq (by omega) (by omega)]
  exact ih
theorem rTag_plain (key : List UInt8) (n : Int) (b : List UInt8) (h : rTag_P key n b = true) : ∃ F, ∀ {X : Type} (fail : X) (ret : List UInt8 → X), rTag F key n b fail ret = ret (rTag_r key n b) := ⟨99, fun fail ret => by
 simp only [rTag_P, Bool.and_eq_true, decide_eq_true_eq] at h
 have hr := inR_iff.1 h.1
 have hl : (le8 n ++ b).length = 8 + b.length := by rw [List.length_append, le8_len]
 unfold rTag
 refine (rtag_l1 99 fail _ n b key h.2.1 32 98 0 rfl (by omega)).trans ?_
 rw [show rLittle_r n 8 = le8 n from rfl, bif_true (c := rLittle_P n 8) (tt (by omega)), bif_true (le_big (by omega)), bif_true (c := rMac_P key _) (tt (by omega))]
 exact rtag_l2 99 fail _ _ (macH_len _ _) 16 98 0 rfl (by omega)⟩
theorem rSeal_plain (k : List UInt8) (n : Int) (b : List UInt8) (_ : rSeal_P k n b = true) : ∃ F, ∀ {X : Type} (fail : X) (ret : List UInt8 → Int → X), rSeal F k n b fail ret = ret (rSeal_r0 k n b) (rSeal_r1 k n b) := ⟨1, fun fail ret => by
 unfold rSeal rSeal_r0 rSeal_r1 seaV
 rcases seaE_cases k n b with ⟨h, e⟩ | ⟨h, h1, e⟩ | ⟨h, h1, h2, e⟩ | ⟨h, h1, h2, e⟩ <;> rw [e]
 ·have hk : ¬ (1 ≤ k.length ∧ k.length ≤ 64) := fun c => by rw [useK_iff.2 c] at h; cases h
  rw [if_neg (by omega)]
  by_cases c : (k.length : Int) < 1
  ·rw [bif_true (tt c)]
  ·rw [bif_false (ff c), bif_true (tt (by omega))]
 ·have hk := useK_iff.1 h
  rw [bif_false (ff (by omega)), bif_false (ff (by omega)), bif_true (tt h1), if_neg (by omega)]
 ·have hk := useK_iff.1 h
  have es : rStream_r1 (rKeys_r0 k) n b = 2 := strE_two (by omega) h2
  rw [bif_false (ff (by omega)), bif_false (ff (by omega)), bif_false (ff h1), if_neg (by omega), bif_true (c := rKeys_P k) (tt (by omega)), bif_true (c := rStream_P _ _ _) rfl, es, bif_true (bne_t (by omega))]
 ·have hk := useK_iff.1 h
  have es : rStream_r1 (rKeys_r0 k) n b = 0 := strE_ok (by omega) h2
  have ev : rStream_r0 (rKeys_r0 k) n b = strS (key0 k) n b := strV_ok (by omega) h2
  have hl : (strS (key0 k) n b).length = b.length := strS_len _ _ _
  rw [bif_false (ff (by omega)), bif_false (ff (by omega)), bif_false (ff h1), if_pos rfl, bif_true (c := rKeys_P k) (tt (by omega)), bif_true (c := rStream_P _ _ _) rfl, es, bif_false (bne_f rfl), ev, bif_true (c := rTag_P _ _ _) (by
   unfold rTag_P; rw [h2, Bool.true_and]; exact tt ⟨key1_len k, by omega⟩), bif_true (le_big (by rw [List.length_append, show (rTag_r (rKeys_r1 k) n (strS (key0 k) n b)).length = 16 from tagS_len _ _ _, hl]; omega))]
  rfl⟩
end Go.AI
