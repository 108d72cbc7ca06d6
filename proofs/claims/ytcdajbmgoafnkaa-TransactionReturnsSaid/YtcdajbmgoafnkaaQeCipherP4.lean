/- Texts of the proof, joined: CipherP4. -/
import Derived.Test.YtcdajbmgoafnkaaQeG
import Derived.Test.YtcdajbmgoafnkaaQeCipherP3
namespace Go.AI
open Go
theorem cKeys_plain (k : List UInt8) (h : cKeys_P k = true) : ∃ F, ∀ {X : Type} (fail : X) (ret : List UInt8 → List UInt8 → X), cKeys F k fail ret = ret (cKeys_r0 k) (cKeys_r1 k) := ⟨1, fun fail ret => by
 simp only [cKeys_P, decide_eq_true_eq] at h
 unfold cKeys
 rw [bif_true (c := dMac_P k _) (tt ⟨h, by simp⟩), bif_true (c := dMac_P k _) (tt ⟨h, by simp⟩)]
 rfl⟩
theorem le8_len (n : Int) : (le8 n).length = 8 := litTo_len _ 8
theorem shr_byte (n : Int) (h0 : 0 ≤ n) (i : Nat) (hi : i < 8) : cvIB (shrI n (mulI 8 (i : Int))) = UInt8.ofNat (n.toNat / 2 ^ (8 * i) % 256) := by
 rw [show mulI 8 (i : Int) = ((8 * i : Nat) : Int) by rw [mulI_eq (by omega) (by omega)]; omega, shrI_eq (by omega) (by omega), cvIB_eq, Int.toNat_natCast]
 obtain ⟨N, rfl⟩ : ∃ N : Nat, n = N := ⟨n.toNat, by omega⟩
 rw [Int.toNat_natCast, show (2 : Int) ^ (8 * i) = ((2 ^ (8 * i) : Nat) : Int) by push_cast; rfl, ← Int.natCast_ediv]
 generalize N / 2 ^ (8 * i) = q
 congr 1
theorem sea_l1 {X : Type} (F : Nat) (fail : X) (ex : Int → Int → List UInt8 → Int → List UInt8 → List UInt8 → List UInt8 → List UInt8 → List UInt8 → X) (n : Int) (h0 : 0 ≤ n) (k : List UInt8) (n' : Int) (b c key au : List UInt8) : ∀ (j m i : Nat), i + j = 8 → j ≤ m →
  cSeal_l1F F fail ex (m + 1) n i k n' b c key (litTo n.toNat i) au = ex n (8 : Nat) k n' b c key (le8 n) au
 | 0, m, i, hi, _ => by
  have e : i = 8 := by omega
  subst e
  rw [cSeal_l1F, cSeal_l1]
  rw [bif_false (ff (by omega))]; rfl
 | j + 1, 0, i, _, hm => absurd hm (by omega)
 | j + 1, m + 1, i, hi, hm => by
  have ih := sea_l1 F fail ex n h0 k n' b c key au j m (i + 1) (by omega) (by omega)
  rw [cSeal_l1F, cSeal_l1]
  simp only [shr_byte n h0 i (by omega), ← litTo_succ]
  rw [bif_true (tt (by omega)), bif_true (tt (by rw [mulI_eq (by omega) (by omega)]; omega)), bif_true (le_big (by rw [litTo_len]; omega)), addI_eq (by omega) (by omega)]
  exact ih
theorem cUsable_plain (k : List UInt8) : ∃ F, ∀ {X : Type} (fail : X) (ret : Bool → X), cUsable F k fail ret = ret (cUsable_r k) := ⟨1, fun fail ret => by
 unfold cUsable cUsable_r useK
 by_cases h : (k.length : Int) ≥ 1
 ·rw [bif_true (tt h)]; congr 1
  by_cases c : (k.length : Int) ≤ 64
  ·rw [tt c, tt (by omega)]
  ·rw [ff c, ff (by omega)]
 ·rw [bif_false (ff h), ff (by omega)]⟩
theorem key1_len (k : List UInt8) : (key1 k).length = 32 := macH_len _ _
theorem tagS_len (k : List UInt8) (n : Int) (b : List UInt8) : (tagS k n b).length = 16 := by
 unfold tagS; rw [List.length_take, macH_len]; omega
theorem seaE_cases (k : List UInt8) (n : Int) (b : List UInt8) : (useK k = false ∧ seaE k n b = 1) ∨ (useK k = true ∧ (b.length : Int) > 65520 ∧ seaE k n b = 5) ∨ (useK k = true ∧ ¬ (b.length : Int) > 65520 ∧ inR n = false ∧ seaE k n b = 2) ∨ (useK k = true ∧ ¬ (b.length : Int) > 65520 ∧ inR n = true ∧ seaE k n b = 0) := by
 unfold seaE
 cases useK k with
 | false => exact .inl ⟨rfl, rfl⟩
 | true =>
  by_cases h : (b.length : Int) > 65520
  ·exact .inr (.inl ⟨rfl, h, by rw [if_pos rfl, if_pos h]⟩)
  ·rw [if_pos rfl, if_neg h]
   cases inR n with
   | false => exact .inr (.inr (.inl ⟨rfl, h, rfl, rfl⟩))
   | true => exact .inr (.inr (.inr ⟨rfl, h, rfl, rfl⟩))
theorem useK_iff {k : List UInt8} : useK k = true ↔ 1 ≤ k.length ∧ k.length ≤ 64 := by simp only [useK, decide_eq_true_eq]
theorem strE_two {n : Int} {b : List UInt8} (h : ¬ (b.length : Int) > 65536) (k : inR n = false) : strE n b = 2 := by
 unfold strE; rw [if_neg h, k]; rfl
theorem strE_ok {n : Int} {b : List UInt8} (h : ¬ (b.length : Int) > 65536) (k : inR n = true) : strE n b = 0 := by
 unfold strE; rw [if_neg h, k]; rfl
theorem strV_ok {key : List UInt8} {n : Int} {b : List UInt8} (h : ¬ (b.length : Int) > 65536) (k : inR n = true) : strV key n b = strS key n b := if_pos (strE_ok h k)
theorem cSeal_plain (k : List UInt8) (n : Int) (b : List UInt8) (_ : cSeal_P k n b = true) : ∃ F, ∀ {X : Type} (fail : X) (ret : List UInt8 → Int → X), cSeal F k n b fail ret = ret (cSeal_r0 k n b) (cSeal_r1 k n b) := ⟨99, fun fail ret => by
 unfold cSeal cSeal_r0 cSeal_r1 cUsable_r seaV
 rcases seaE_cases k n b with ⟨h, e⟩ | ⟨h, h1, e⟩ | ⟨h, h1, h2, e⟩ | ⟨h, h1, h2, e⟩ <;> rw [e, h]
 ·rw [bif_true (c := !false) rfl, if_neg (by omega)]
 ·rw [bif_false (c := !true) rfl, bif_true (tt h1), if_neg (by omega)]
 ·have hk := useK_iff.1 h
  have es : cStream_r1 (cKeys_r0 k) n b = 2 := strE_two (by omega) h2
  rw [bif_false (c := !true) rfl, bif_false (ff h1), if_neg (by omega), bif_true (c := cKeys_P k) (tt (by omega)), bif_true (c := cStream_P _ _ _) rfl, es, bif_true (bne_t (by omega))]
 ·have hk := useK_iff.1 h
  have hr := inR_iff.1 h2
  have es : cStream_r1 (cKeys_r0 k) n b = 0 := strE_ok (by omega) h2
  have ev : cStream_r0 (cKeys_r0 k) n b = strS (key0 k) n b := strV_ok (by omega) h2
  have hl : (strS (key0 k) n b).length = b.length := strS_len _ _ _
  rw [bif_false (c := !true) rfl, bif_false (ff h1), if_pos rfl, bif_true (c := cKeys_P k) (tt (by omega)), bif_true (c := cStream_P _ _ _) rfl, es, bif_false (bne_f rfl), ev]
  refine (sea_l1 99 fail _ n hr.1 k n b _ _ _ 8 98 0 rfl (by omega)).trans ?_
  have hl2 : (le8 n ++ strS (key0 k) n b).length = 8 + b.length := by rw [List.length_append, le8_len, hl]
  rw [show cKeys_r1 k = key1 k from rfl, List.take_of_length_le (show (key1 k).length ≤ 32 by rw [key1_len]; omega), bif_true (le_big (by omega)), bif_true (c := dMac_P (key1 k) _) (tt (by rw [key1_len]; omega))]
  rw [show List.take 16 (dMac_r (key1 k) (le8 n ++ strS (key0 k) n b)) = tagS (key1 k) n (strS (key0 k) n b) from rfl, bif_true (le_big (by rw [List.length_append, tagS_len, hl]; omega))]⟩
end Go.AI
