/- Texts of the proof, joined: CipherP3. -/
import Derived.Test.YtnmidfcefljafaaGreatQtCipherP2
namespace Go.AI
open Go
def litTo (n k : Nat) : List UInt8 := (List.range k).map fun i => UInt8.ofNat (n / 2 ^ (8 * i) % 256)
theorem litTo_len (n k : Nat) : (litTo n k).length = k := by simp [litTo]
theorem litTo_succ (n k : Nat) : litTo n (k + 1) = litTo n k ++ [UInt8.ofNat (n / 2 ^ (8 * k) % 256)] := by
 unfold litTo; rw [List.range_succ, List.map_append]; rfl
theorem xorL_getD (a b : List UInt8) (i : Nat) (ha : i < a.length) (hb : i < b.length) : (xorL a b).getD i 0 = xorB (a.getD i 0) (b.getD i 0) := by
 unfold xorL
 rw [getD_ltd (by rw [List.length_zipWith]; omega), getD_ltd ha, getD_ltd hb, List.getElem_zipWith]
theorem strF_ok (key : List UInt8) (nonce : Int) : ∀ (n c : Nat) (b : List UInt8), b.length ≤ 64 * n → (strF key nonce n c b).length = b.length ∧ ∀ p, p < b.length → (strF key nonce n c b).getD p 0 = xorB (b.getD p 0) ((blkS key nonce ((c + p / 64 : Nat) : Int)).getD (p % 64) 0)
  | 0, c, b, h => ⟨by have : b.length = 0 := by omega
                      rw [this]; rfl, fun p hp => absurd hp (by omega)⟩
  | n + 1, c, b, h => by
    have hk := blkS_len key nonce c
    obtain ⟨l, g⟩ := strF_ok key nonce n (c + 1) (b.drop 64) (by rw [List.length_drop]; omega)
    have lx : (xorL (b.take 64) (blkS key nonce c)).length = min 64 b.length := by
      unfold xorL; rw [List.length_zipWith, List.length_take, hk]; omega
    refine ⟨?_, fun p hp => ?_⟩
    · show (xorL _ _ ++ strF key nonce n (c + 1) (b.drop 64)).length = _
      rw [List.length_append, lx, l, List.length_drop]; omega
    · show (xorL (b.take 64) (blkS key nonce c) ++ strF key nonce n (c + 1) (b.drop 64)).getD p 0 = _
      rw [List.getD_eq_getElem?_getD]
      by_cases hp64 : p < 64
      · rw [List.getElem?_append_left (by omega), ← List.getD_eq_getElem?_getD, xorL_getD _ _ _ (by rw [List.length_take]; omega) (by omega), getD_take _ _ _ _ hp64, show c + p / 64 = c by omega, Nat.mod_eq_of_lt hp64]
      · rw [List.getElem?_append_right (by omega), ← List.getD_eq_getElem?_getD, lx, show p - min 64 b.length = p - 64 by omega, g (p - 64) (by rw [List.length_drop]; omega)]
        rw [show c + 1 + (p - 64) / 64 = c + p / 64 by omega, show (p - 64) % 64 = p % 64 by omega]
        congr 1
        simp only [List.getD_eq_getElem?_getD, List.getElem?_drop]
        rw [show 64 + (p - 64) = p by omega]
theorem strS_len (key : List UInt8) (nonce : Int) (b : List UInt8) : (strS key nonce b).length = b.length := (strF_ok key nonce _ 1 b (by omega)).1
theorem strS_get (key : List UInt8) (nonce : Int) (b : List UInt8) (p : Nat) (h : p < b.length) : (strS key nonce b).getD p 0 = xorB (b.getD p 0) ((blkS key nonce ((1 + p / 64 : Nat) : Int)).getD (p % 64) 0) := (strF_ok key nonce _ 1 b (by omega)).2 p h
def ovr (s b : List UInt8) (p : Nat) : List UInt8 := s.take p ++ b.drop p
theorem ovr_len {s b : List UInt8} (h : s.length = b.length) (p : Nat) : (ovr s b p).length = b.length := by
 unfold ovr; rw [List.length_append, List.length_take, List.length_drop]; omega
theorem ovr_get {s b : List UInt8} (h : s.length = b.length) (p : Nat) (hp : p < b.length) : (ovr s b p).getD p 0 = b.getD p 0 := by
 unfold ovr
 simp only [List.getD_eq_getElem?_getD]
 rw [List.getElem?_append_right (by rw [List.length_take]; omega), List.length_take, show p - min p s.length = 0 by omega, List.getElem?_drop, Nat.add_zero]
theorem ovr_set {s b : List UInt8} (h : s.length = b.length) (p : Nat) (hp : p < b.length) : (ovr s b p).set p (s.getD p 0) = ovr s b (p + 1) := by
 unfold ovr
 rw [List.set_append_right _ _ (by rw [List.length_take]; omega), List.length_take, show p - min p s.length = 0 by omega, take_snoc s p 0 (by omega), List.append_assoc]
 congr 1
 rw [List.drop_eq_getElem_cons hp]
 rfl
theorem ovr_all {s b : List UInt8} (h : s.length = b.length) (p : Nat) (hp : b.length ≤ p) : ovr s b p = s := by
 unfold ovr
 rw [List.take_of_length_le (by omega), List.drop_eq_nil_of_le hp, List.append_nil]
theorem ovr_min {s b : List UInt8} (h : s.length = b.length) (p : Nat) : ovr s b (min p b.length) = ovr s b p := by
 by_cases hp : p ≤ b.length
 ·rw [Nat.min_eq_left hp]
 ·rw [Nat.min_eq_right (by omega), ovr_all h _ (Nat.le_refl _), ovr_all h _ (by omega)]
theorem st_l2 {X : Type} (F : Nat) (fail : X) (ex : Nat → Nat → Int → Int → Int → List UInt8 → Int → Int → List UInt8 → List UInt8 → List UInt8 → Int → Int → X) (key : List UInt8) (nonce : Int) (b : List UInt8) (b' : List UInt8) (i n : Nat) (q s7 c s2 : Int) (hn : n ≤ 64) (hi : i % 64 = 0) (hb : i + n ≤ b.length) : ∀ (j m k : Nat), k + j = n → j ≤ m →
  cStream_l2F F fail ex (m + 1) i n (n : Nat) k q b' s7 c (ovr (strS key nonce b) b (i + k)) (blkS key nonce ((1 + i / 64 : Nat) : Int)) key nonce s2 = ex i n (n : Nat) (n : Nat) q b' s7 c (ovr (strS key nonce b) b (i + n)) (blkS key nonce ((1 + i / 64 : Nat) : Int)) key nonce s2
 | 0, m, k, hk, _ => by
  have e : k = n := by omega
  subst e
  rw [cStream_l2F, cStream_l2]
  rw [bif_false (ff (by omega))]
 | j + 1, 0, k, _, hm => absurd hm (by omega)
 | j + 1, m + 1, k, hk, hm => by
  have ih := st_l2 F fail ex key nonce b b' i n q s7 c s2 hn hi hb j m (k + 1) (by omega) (by omega)
  have hl := strS_len key nonce b
  have hg := strS_get key nonce b (i + k) (by omega)
  rw [show 1 + (i + k) / 64 = 1 + i / 64 by omega, show (i + k) % 64 = k by omega] at hg
  rw [cStream_l2F, cStream_l2, Int.toNat_natCast, ovr_get hl (i + k) (by omega), ← hg, ovr_set hl (i + k) (by omega), blkS_len]
  rw [bif_true (tt (by omega)), bif_true (tt2 (by omega) (by omega)), bif_true (tt2 (by omega) (by omega)), bif_true (tt2 (by omega) (by omega)), addI_eq (by omega) (by omega)]
  exact ih
theorem st_l1 {X : Type} (fail : X) (ex : Int → List UInt8 → Int → List UInt8 → Int → Int → List UInt8 → Int → X) (key : List UInt8) (nonce : Int) (hr : inR nonce = true) (b b' : List UInt8) (s7 : Int) (hb : b.length ≤ 65536) : ∀ (j m k : Nat), b.length ≤ 64 * (k + j) → j ≤ m →
  ∃ i c, cStream_l1F 2000 fail ex (m + 1) (64 * k : Nat) b' s7 key nonce (1 + k : Nat) (ovr (strS key nonce b) b (64 * k)) 64 = ex i b' s7 key nonce c (strS key nonce b) 64
 | 0, m, k, hk, _ => by
  have hl := strS_len key nonce b
  refine ⟨((64 * k : Nat) : Int), ((1 + k : Nat) : Int), ?_⟩
  rw [cStream_l1F, cStream_l1]
  rw [ovr_all hl _ (by omega), hl, bif_false (ff (by omega))]
 | j + 1, 0, k, _, hm => absurd hm (by omega)
 | j + 1, m + 1, k, hk, hm => by
  have hl := strS_len key nonce b
  have ho := ovr_len hl (64 * k)
  by_cases hlt : 64 * k < b.length
  ·obtain ⟨i, c, ih⟩ := st_l1 fail ex key nonce hr b b' s7 hb j m (k + 1) (by omega) (by omega)
   refine ⟨i, c, ?_⟩
   have emin : minI 64 ((b.length - 64 * k : Nat) : Int) = ((min 64 (b.length - 64 * k) : Nat) : Int) := by rw [minI_eq]; omega
   have eadd : addI ((64 * k : Nat) : Int) ((min 64 (b.length - 64 * k) : Nat) : Int) = ((64 * k + min 64 (b.length - 64 * k) : Nat) : Int) := by rw [addI_eq (by omega) (by omega)]; omega
   rw [cStream_l1F, cStream_l1, ho]
   simp only [Int.toNat_natCast, emin, eadd]
   rw [bif_true (tt (by omega)), bif_true (tt2 (by omega) (by omega)), bif_true (by rw [tt3 (by omega) (by omega) (by omega)]; exact beq_t rfl), bif_true (c := cBlk_P key nonce _) hr]
   rw [show 64 * k + min 64 (b.length - 64 * k) - 64 * k = min 64 (b.length - 64 * k) by omega]
   have hc : cBlk_r key nonce ((1 + k : Nat) : Int) = blkS key nonce ((1 + 64 * k / 64 : Nat) : Int) := by rw [show 64 * k / 64 = k by omega]; rfl
   rw [hc]
   refine (st_l2 2000 fail _ key nonce b b' (64 * k) (min 64 (b.length - 64 * k)) _ s7 _ 64 (by omega) (by omega) (by omega) (min 64 (b.length - 64 * k)) 1999 0 (by omega) (by omega)).trans ?_
   rw [show 64 * k + min 64 (b.length - 64 * k) = min (64 * (k + 1)) b.length by omega, ovr_min hl, show addI ((64 * k : Nat) : Int) 64 = ((64 * (k + 1) : Nat) : Int) by rw [addI_eq (by omega) (by omega)]; omega, show addI ((1 + k : Nat) : Int) 1 = ((1 + (k + 1) : Nat) : Int) by rw [addI_eq (by omega) (by omega)]; omega]
   exact ih
  ·refine ⟨((64 * k : Nat) : Int), ((1 + k : Nat) : Int), ?_⟩
   rw [cStream_l1F, cStream_l1]
   rw [ovr_all hl _ (by omega), hl, bif_false (ff (by omega))]
theorem strE_cases (nonce : Int) (b : List UInt8) : ((b.length : Int) > 65536 ∧ strE nonce b = 5) ∨ (¬ (b.length : Int) > 65536 ∧ inR nonce = false ∧ strE nonce b = 2) ∨ (¬ (b.length : Int) > 65536 ∧ inR nonce = true ∧ strE nonce b = 0) := by
 unfold strE
 by_cases h : (b.length : Int) > 65536
 ·exact .inl ⟨h, if_pos h⟩
 ·rw [if_neg h]
  cases inR nonce with
  | false => exact .inr (.inl ⟨h, rfl, rfl⟩)
  | true => exact .inr (.inr ⟨h, rfl, rfl⟩)
theorem cStream_plain (key : List UInt8) (nonce : Int) (b : List UInt8) (_ : cStream_P key nonce b = true) : ∃ F, ∀ {X : Type} (fail : X) (ret : List UInt8 → Int → X), cStream F key nonce b fail ret = ret (cStream_r0 key nonce b) (cStream_r1 key nonce b) := ⟨2000, fun fail ret => by
 unfold cStream cStream_r0 cStream_r1 cRange_r strV
 rcases strE_cases nonce b with ⟨h, e⟩ | ⟨h, h1, e⟩ | ⟨h, h1, e⟩ <;> rw [e]
 ·rw [bif_true (tt h), if_neg (by omega)]
 ·rw [bif_false (ff h), h1, bif_true (c := !false) rfl, if_neg (by omega)]
 ·rw [bif_false (ff h), h1, bif_false (c := !true) rfl, if_pos rfl, bif_true (c := clone_byte_P b) (tt (by omega))]
  obtain ⟨i, c, hx⟩ := st_l1 fail (fun (_ : Int) (_ : List UInt8) (_ : Int) (_ : List UInt8) (_ : Int) (_ : Int) (out : List UInt8) (_ : Int) => ret out (0 : Int)) key nonce h1 b b 0 (by omega) 1024 1999 0 (by omega) (by omega)
  exact hx⟩
end Go.AI
