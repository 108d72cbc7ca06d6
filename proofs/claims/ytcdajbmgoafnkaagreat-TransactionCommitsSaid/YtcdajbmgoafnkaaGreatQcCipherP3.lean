/- Texts of the proof, joined: CipherP3. -/
import Derived.Test.YtcdajbmgoafnkaaGreatQcCipherP2
namespace Go.AI
open Go
theorem rb_l3_step {X : Type} (F : Nat) (fail : X) (ex : Int → Int → List UInt32 → List UInt32 → X) (p : Int) (b w : List UInt32) (m k : Nat) (hk : k < 4) (hw : w.length = 16) :
  rBlock_l3F F fail ex (m + 1) p k b w = rBlock_l3F F fail ex m p (k + 1 : Nat) b (qrt w k (4 + (k + 1) % 4) (8 + (k + 2) % 4) (12 + (k + 3) % 4)) := by
 have a4 : addI 4 (remI (addI (k : Int) 1) 4) = ((4 + (k + 1) % 4 : Nat) : Int) := by rw [rem4 k 1 1 rfl (by omega) (by omega), add4 4 _ 4 rfl (by omega) (by omega)]
 have a8 : addI 8 (remI (addI (k : Int) 2) 4) = ((8 + (k + 2) % 4 : Nat) : Int) := by rw [rem4 k 2 2 rfl (by omega) (by omega), add4 8 _ 8 rfl (by omega) (by omega)]
 have a12 : addI 12 (remI (addI (k : Int) 3) 4) = ((12 + (k + 3) % 4 : Nat) : Int) := by rw [rem4 k 3 3 rfl (by omega) (by omega), add4 12 _ 12 rfl (by omega) (by omega)]
 have v1 : rBlock_l3_v1 k w = stp w k (4 + (k + 1) % 4) (12 + (k + 3) % 4) 16 := by
  unfold rBlock_l3_v1; simp only [a4, a12, Int.toNat_natCast]; rfl
 have v6 : rBlock_l3_v6 k w = stp (stp w k (4 + (k + 1) % 4) (12 + (k + 3) % 4) 16) (8 + (k + 2) % 4) (12 + (k + 3) % 4) (4 + (k + 1) % 4) 12 := by
  unfold rBlock_l3_v6 rBlock_l3_v5 rBlock_l3_v3; simp only [v1, a4, a8, a12, Int.toNat_natCast]; rfl
 have v11 : rBlock_l3_v11 k w = stp (stp (stp w k (4 + (k + 1) % 4) (12 + (k + 3) % 4) 16) (8 + (k + 2) % 4) (12 + (k + 3) % 4) (4 + (k + 1) % 4) 12) k (4 + (k + 1) % 4) (12 + (k + 3) % 4) 8 := by
  unfold rBlock_l3_v11 rBlock_l3_v10 rBlock_l3_v8; simp only [v6, a4, a12, Int.toNat_natCast]; rfl
 have hr : List.set (rBlock_l3_v13 k w) (4 + (k + 1) % 4) (rRotl_r (rBlock_l3_v15 k w) 7) = qrt w k (4 + (k + 1) % 4) (8 + (k + 2) % 4) (12 + (k + 3) % 4) := by
  unfold rBlock_l3_v15 rBlock_l3_v13; simp only [v11, a4, a8, a12, Int.toNat_natCast]; rfl
 have n1 : (rBlock_l3_v1 k w).length = 16 := by rw [v1, stp_len, hw]
 have n3 : (rBlock_l3_v3 k w).length = 16 := by unfold rBlock_l3_v3; rw [List.length_set, n1]
 have n6 : (rBlock_l3_v6 k w).length = 16 := by rw [v6, stp_len, stp_len, hw]
 have n8 : (rBlock_l3_v8 k w).length = 16 := by unfold rBlock_l3_v8; rw [List.length_set, n6]
 have n11 : (rBlock_l3_v11 k w).length = 16 := by rw [v11, stp_len, stp_len, stp_len, hw]
 have n13 : (rBlock_l3_v13 k w).length = 16 := by unfold rBlock_l3_v13; rw [List.length_set, n11]
 have c2 : rBlock_l3_v2 k w = true := by unfold rBlock_l3_v2; rw [a8, n1]; exact tt2 (by omega) (by omega)
 have c4 : rBlock_l3_v4 k w = true := by unfold rBlock_l3_v4; rw [a4, n3]; exact tt2 (by omega) (by omega)
 have c7 : rBlock_l3_v7 k w = true := by unfold rBlock_l3_v7; rw [n6]; exact tt2 (by omega) (by omega)
 have c9 : rBlock_l3_v9 k w = true := by unfold rBlock_l3_v9; rw [a12, n8]; exact tt2 (by omega) (by omega)
 have c12 : rBlock_l3_v12 k w = true := by unfold rBlock_l3_v12; rw [a8, n11]; exact tt2 (by omega) (by omega)
 have c14 : rBlock_l3_v14 k w = true := by unfold rBlock_l3_v14; rw [a4, n13]; exact tt2 (by omega) (by omega)
 rw [rBlock_l3F, rBlock_l3]
 simp only [a4, a8, a12, Int.toNat_natCast, List.length_set, n1, n3, n6, n8, n11, n13, hw, c2, c4, c7, c9, c12, c14, (rotl_ok _).1, (rotl_ok _).2.1, (rotl_ok _).2.2.1, (rotl_ok _).2.2.2, cond_true, hr]
 rw [bif_true (tt (by omega)), bif_true (tt2 (by omega) (by omega)), bif_true (tt2 (by omega) (by omega)), bif_true (tt2 (by omega) (by omega)), bif_true (tt2 (by omega) (by omega)), bif_true (tt2 (by omega) (by omega)), bif_true (tt2 (by omega) (by omega)), bif_true (tt2 (by omega) (by omega)), bif_true (tt2 (by omega) (by omega)), bif_true (tt2 (by omega) (by omega)), bif_true (tt2 (by omega) (by omega)), bif_true (tt2 (by omega) (by omega)), bif_true (tt2 (by omega) (by omega)), addI_eq (by omega) (by omega)]
 rfl
theorem rb_l2 {X : Type} (F : Nat) (fail : X) (ex : Int → Int → List UInt32 → List UInt32 → X) (p : Int) (v b : List UInt32) (hv : v.length = 16) : ∀ (j m i : Nat), i + j = 4 → j ≤ m →
  rBlock_l2F F fail ex (m + 1) p i b (colR v i) = ex p (4 : Nat) b (colR v 4)
 | 0, m, i, hi, _ => by
  have e : i = 4 := by omega
  subst e
  rw [rBlock_l2F, rBlock_l2]
  rw [bif_false (ff (by omega))]
 | j + 1, 0, i, _, hm => absurd hm (by omega)
 | j + 1, m + 1, i, hi, hm => by
  rw [rb_l2_step F fail ex p b (colR v i) (m + 1) i (by omega) (by rw [colR_len, hv])]
  exact rb_l2 F fail ex p v b hv j m (i + 1) (by omega) (by omega)
theorem rb_l3 {X : Type} (F : Nat) (fail : X) (ex : Int → Int → List UInt32 → List UInt32 → X) (p : Int) (v b : List UInt32) (hv : v.length = 16) : ∀ (j m i : Nat), i + j = 4 → j ≤ m →
  rBlock_l3F F fail ex (m + 1) p i b (diaR v i) = ex p (4 : Nat) b (diaR v 4)
 | 0, m, i, hi, _ => by
  have e : i = 4 := by omega
  subst e
  rw [rBlock_l3F, rBlock_l3]
  rw [bif_false (ff (by omega))]
 | j + 1, 0, i, _, hm => absurd hm (by omega)
 | j + 1, m + 1, i, hi, hm => by
  rw [rb_l3_step F fail ex p b (diaR v i) (m + 1) i (by omega) (by rw [diaR_len, hv])]
  exact rb_l3 F fail ex p v b hv j m (i + 1) (by omega) (by omega)
theorem rb_l1 {X : Type} (fail : X) (ex : Int → List UInt32 → List UInt32 → X) (v b : List UInt32) (hv : v.length = 16) : ∀ (j m i : Nat), i + j = 10 → j ≤ m →
  rBlock_l1F 99 fail ex (m + 1) i b (mixR v i) = ex (10 : Nat) b (mixR v 10)
 | 0, m, i, hi, _ => by
  have e : i = 10 := by omega
  subst e
  rw [rBlock_l1F, rBlock_l1]
  rw [bif_false (ff (by omega))]
 | j + 1, 0, i, _, hm => absurd hm (by omega)
 | j + 1, m + 1, i, hi, hm => by
  have ih := rb_l1 fail ex v b hv j m (i + 1) (by omega) (by omega)
  rw [rBlock_l1F, rBlock_l1]
  rw [bif_true (tt (by omega))]
  refine (rb_l2 99 fail _ i (mixR v i) b (by rw [mixR_len, hv]) 4 98 0 rfl (by omega)).trans ?_
  refine (rb_l3 99 fail _ i (colR (mixR v i) 4) b (by rw [colR_len, mixR_len, hv]) 4 98 0 rfl (by omega)).trans ?_
  rw [addI_eq (by omega) (by omega)]
  exact ih
def litTo (n k : Nat) : List UInt8 := (List.range k).map fun i => UInt8.ofNat (n / 2 ^ (8 * i) % 256)
theorem litTo_len (n k : Nat) : (litTo n k).length = k := by simp [litTo]
theorem litTo_succ (n k : Nat) : litTo n (k + 1) = litTo n k ++ [UInt8.ofNat (n / 2 ^ (8 * k) % 256)] := by
 unfold litTo; rw [List.range_succ, List.map_append]; rfl
theorem quo256d (q : Nat) (h : q < 9223372036854775808) : quoI (q : Int) 256 = ((q / 256 : Nat) : Int) := by
 rw [quoI_eq (by omega) (by omega) (by omega)]; omega
theorem rem256d (q : Nat) : cvIB (remI (q : Int) 256) = UInt8.ofNat (q % 256) := by
 rw [remI_eq (by omega), cvIB_eq]
 congr 1
 omega
theorem lit_l1 {X : Type} (F : Nat) (fail : X) (ex : Int → Int → Int → List UInt8 → X) (N : Nat) (hN : N < 9223372036854775808) (b : Nat) (hb : b ≤ 8) : ∀ (j m i : Nat), i + j = b → j ≤ m →
  rLittle_l1F F fail ex (m + 1) (N / 2 ^ (8 * i) : Nat) b i (litTo N i) = ex (N / 2 ^ (8 * b) : Nat) b b (litTo N b)
 | 0, m, i, hi, _ => by
  have e : i = b := by omega
  subst e
  rw [rLittle_l1F, rLittle_l1]
  rw [bif_false (ff (by omega))]
 | j + 1, 0, i, _, hm => absurd hm (by omega)
 | j + 1, m + 1, i, hi, hm => by
  have ih := lit_l1 F fail ex N hN b hb j m (i + 1) (by omega) (by omega)
  have hd := Nat.div_le_self N (2 ^ (8 * i))
  have e1 : quoI ((N / 2 ^ (8 * i) : Nat) : Int) 256 = ((N / 2 ^ (8 * (i + 1)) : Nat) : Int) := by
   rw [quo256d _ (by omega), show 8 * (i + 1) = 8 * i + 8 by omega, Nat.pow_add, ← Nat.div_div_eq_div_mul]
  have e2 := rem256d (N / 2 ^ (8 * i))
  rw [rLittle_l1F, rLittle_l1]
  simp only [e1, e2, ← litTo_succ]
  rw [bif_true (tt (by omega)), bif_true (le_big (by rw [litTo_len]; omega)), addI_eq (by omega) (by omega)]
  exact ih
theorem rLittle_plain (n b : Int) (h : rLittle_P n b = true) : ∃ F, ∀ {X : Type} (fail : X) (ret : List UInt8 → X), rLittle F n b fail ret = ret (rLittle_r n b) := ⟨99, fun fail ret => by
 simp only [rLittle_P, decide_eq_true_eq] at h
 obtain ⟨N, rfl⟩ : ∃ N : Nat, n = N := ⟨n.toNat, by omega⟩
 obtain ⟨k, rfl⟩ : ∃ k : Nat, b = k := ⟨b.toNat, by omega⟩
 unfold rLittle
 have e := lit_l1 99 fail (fun (_ : Int) (_ : Int) (_ : Int) (out : List UInt8) => ret out) N (by omega) k (by omega) k 98 0 (by omega) (by omega)
 rw [Nat.mul_zero, Nat.pow_zero, Nat.div_one] at e
 exact e⟩
theorem le4_lit (x : UInt32) : rLittle_r (cvWI x) 4 = le4 x := by
 have hx := x.toNat_lt
 have s1 := shrW_nat x 8 (by omega)
 have s2 := shrW_nat x 16 (by omega)
 have s3 := shrW_nat x 24 (by omega)
 have e : ∀ (y : UInt32) (k : Nat), y.toNat = x.toNat / 2 ^ k → UInt8.ofNat (x.toNat / 2 ^ k % 256) = cvWB y := fun y k h => by
  apply UInt8.toNat_inj.1
  rw [cvWB_nat, h, UInt8.toNat_ofNat']; omega
 rw [cvWI_eq]
 show [UInt8.ofNat (x.toNat / 2 ^ 0 % 256), UInt8.ofNat (x.toNat / 2 ^ 8 % 256), UInt8.ofNat (x.toNat / 2 ^ 16 % 256), UInt8.ofNat (x.toNat / 2 ^ 24 % 256)] = _
 rw [e x 0 (by omega), e _ 8 s1, e _ 16 s2, e _ 24 s3]
 rfl
theorem rb_l4 {X : Type} (F : Nat) (fail : X) (ex : Int → List UInt32 → List UInt32 → List UInt8 → X) (v w : List UInt32) (hv : v.length = 16) (hw : w.length = 16) : ∀ (j m i : Nat), i + j = 16 → j ≤ m →
  rBlock_l4F F fail ex (m + 1) i w v (outTo v w i) = ex (16 : Nat) w v (outTo v w 16)
 | 0, m, i, hi, _ => by
  have e : i = 16 := by omega
  subst e
  rw [rBlock_l4F, rBlock_l4]
  rw [bif_false (ff (by omega))]
 | j + 1, 0, i, _, hm => absurd hm (by omega)
 | j + 1, m + 1, i, hi, hm => by
  have ih := rb_l4 F fail ex v w hv hw j m (i + 1) (by omega) (by omega)
  have hl := outTo_len v w (i + 1)
  have hx := (addW (v.getD i 0) (w.getD i 0)).toNat_lt
  rw [rBlock_l4F, rBlock_l4]
  simp only [Int.toNat_natCast, le4_lit, ← outTo_succ]
  rw [bif_true (tt (by omega)), bif_true (tt2 (by omega) (by omega)), bif_true (tt2 (by omega) (by omega)), bif_true (c := rLittle_P _ _) (by rw [cvWI_eq]; exact tt (by omega)), bif_true (le_big (by omega)), addI_eq (by omega) (by omega)]
  exact ih
theorem rBlock_plain (key : List UInt8) (nonce counter : Int) (_ : rBlock_P key nonce counter = true) : ∃ F, ∀ {X : Type} (fail : X) (ret : List UInt8 → Int → X), rBlock F key nonce counter fail ret = ret (rBlock_r0 key nonce counter) (rBlock_r1 key nonce counter) := ⟨99, fun fail ret => by
 unfold rBlock rBlock_r0 rBlock_r1 rNonces_r
 rcases blkE_cases nonce counter with ⟨h, e⟩ | ⟨h, h1, e⟩ | ⟨h, h1, h2, e⟩ | ⟨h, h1, h2, e⟩ <;> rw [e, h]
 ·rw [bif_true (c := !false) rfl, if_neg (by omega)]
 ·rw [bif_false (c := !true) rfl, bif_true (tt h1), if_neg (by omega)]
 ·rw [bif_false (c := !true) rfl, bif_false (ff h1), bif_true (tt h2), if_neg (by omega)]
 ·rw [bif_false (c := !true) rfl, bif_false (ff h1), bif_false (ff h2), if_pos rfl, bif_true (c := rWords_P key nonce counter) h, bif_true (c := rWords_P key nonce counter) h]
  refine (rb_l1 fail _ (iniW key nonce counter) _ rfl 10 98 0 rfl (by omega)).trans ?_
  exact rb_l4 99 fail _ _ _ (by rw [mixR_len]; rfl) rfl 16 98 0 rfl (by omega)⟩
theorem xorL_getD (a b : List UInt8) (i : Nat) (ha : i < a.length) (hb : i < b.length) : (xorL a b).getD i 0 = xorB (a.getD i 0) (b.getD i 0) := by
 unfold xorL
 rw [getD_ltd (by rw [List.length_zipWith]; omega), getD_ltd ha, getD_ltd hb, List.getElem_zipWith]
theorem strF_ok (key : List UInt8) (nonce : Int) : ∀ (n c : Nat) (b : List UInt8), b.length ≤ 64 * n → (strF key nonce n c b).length = b.length ∧ ∀ p, p < b.length → (strF key nonce n c b).getD p 0 = xorB (b.getD p 0) ((blkS key nonce ((c + p / 64 : Nat) : Int)).getD (p % 64) 0)
  | 0, c, b, h => ⟨by have : b.length = 0 := by omega
                      rw [this]; rfl, fun p hp => absurd hp (by omega)⟩
  | n + 1, c, b, h => by
    have hk := blkS_len key nonce c
    obtain ⟨l, g⟩ := strF_ok key nonce n (c + 1) (b.drop 64) (by rw [List.length_drop]; omega)
    have lx : (xorL (b.take 64) (blkS key nonce c)).length = min 64 b.length := by
      unfold xorL; rw [List.length_zipWith, List.length_take, hk]; omega
    refine ⟨?_, fun p hp => ?_⟩
    · show (xorL _ _ ++ strF key nonce n (c + 1) (b.drop 64)).length = _
      rw [List.length_append, lx, l, List.length_drop]; omega
    · show (xorL (b.take 64) (blkS key nonce c) ++ strF key nonce n (c + 1) (b.drop 64)).getD p 0 = _
      rw [List.getD_eq_getElem?_getD]
      by_cases hp64 : p < 64
      · rw [List.getElem?_append_left (by omega), ← List.getD_eq_getElem?_getD, xorL_getD _ _ _ (by rw [List.length_take]; omega) (by omega), getD_take _ _ _ _ hp64, show c + p / 64 = c by omega, Nat.mod_eq_of_lt hp64]
      · rw [List.getElem?_append_right (by omega), ← List.getD_eq_getElem?_getD, lx, show p - min 64 b.length = p - 64 by omega, g (p - 64) (by rw [List.length_drop]; omega)]
        rw [show c + 1 + (p - 64) / 64 = c + p / 64 by omega, show (p - 64) % 64 = p % 64 by omega]
        congr 1
        simp only [List.getD_eq_getElem?_getD, List.getElem?_drop]
        rw [show 64 + (p - 64) = p by omega]
theorem strS_len (key : List UInt8) (nonce : Int) (b : List UInt8) : (strS key nonce b).length = b.length := (strF_ok key nonce _ 1 b (by omega)).1
theorem strS_get (key : List UInt8) (nonce : Int) (b : List UInt8) (p : Nat) (h : p < b.length) : (strS key nonce b).getD p 0 = xorB (b.getD p 0) ((blkS key nonce ((1 + p / 64 : Nat) : Int)).getD (p % 64) 0) := (strF_ok key nonce _ 1 b (by omega)).2 p h
def ovr (s b : List UInt8) (p : Nat) : List UInt8 := s.take p ++ b.drop p
theorem ovr_len {s b : List UInt8} (h : s.length = b.length) (p : Nat) : (ovr s b p).length = b.length := by
 unfold ovr; rw [List.length_append, List.length_take, List.length_drop]; omega
theorem ovr_get {s b : List UInt8} (h : s.length = b.length) (p : Nat) (hp : p < b.length) : (ovr s b p).getD p 0 = b.getD p 0 := by
 unfold ovr
 simp only [List.getD_eq_getElem?_getD]
 rw [List.getElem?_append_right (by rw [List.length_take]; omega), List.length_take, show p - min p s.length = 0 by omega, List.getElem?_drop, Nat.add_zero]
theorem ovr_set {s b : List UInt8} (h : s.length = b.length) (p : Nat) (hp : p < b.length) : (ovr s b p).set p (s.getD p 0) = ovr s b (p + 1) := by
 unfold ovr
 rw [List.set_append_right _ _ (by rw [List.length_take]; omega), List.length_take, show p - min p s.length = 0 by omega, take_snoc s p 0 (by omega), List.append_assoc]
 congr 1
 rw [List.drop_eq_getElem_cons hp]
 rfl
theorem ovr_all {s b : List UInt8} (h : s.length = b.length) (p : Nat) (hp : b.length ≤ p) : ovr s b p = s := by
 unfold ovr
 rw [List.take_of_length_le (by omega), List.drop_eq_nil_of_le hp, List.append_nil]
theorem ovr_min {s b : List UInt8} (h : s.length = b.length) (p : Nat) : ovr s b (min p b.length) = ovr s b p := by
 by_cases hp : p ≤ b.length
 ·rw [Nat.min_eq_left hp]
 ·rw [Nat.min_eq_right (by omega), ovr_all h _ (Nat.le_refl _), ovr_all h _ (by omega)]
theorem st_l2 {X : Type} (F : Nat) (fail : X) (ex : Nat → Nat → Int → Int → Int → List UInt8 → Int → Int → List UInt8 → List UInt8 → List UInt8 → Int → Int → X) (key : List UInt8) (nonce : Int) (b : List UInt8) (b' : List UInt8) (i n : Nat) (q s7 c s2 : Int) (hn : n ≤ 64) (hi : i % 64 = 0) (hb : i + n ≤ b.length) : ∀ (j m k : Nat), k + j = n → j ≤ m →
  cStream_l2F F fail ex (m + 1) i n (n : Nat) k q b' s7 c (ovr (strS key nonce b) b (i + k)) (blkS key nonce ((1 + i / 64 : Nat) : Int)) key nonce s2 = ex i n (n : Nat) (n : Nat) q b' s7 c (ovr (strS key nonce b) b (i + n)) (blkS key nonce ((1 + i / 64 : Nat) : Int)) key nonce s2
 | 0, m, k, hk, _ => by
  have e : k = n := by omega
  subst e
  rw [cStream_l2F, cStream_l2]
  rw [bif_false (ff (by omega))]
 | j + 1, 0, k, _, hm => absurd hm (by omega)
 | j + 1, m + 1, k, hk, hm => by
  have ih := st_l2 F fail ex key nonce b b' i n q s7 c s2 hn hi hb j m (k + 1) (by omega) (by omega)
  have hl := strS_len key nonce b
  have hg := strS_get key nonce b (i + k) (by omega)
  rw [show 1 + (i + k) / 64 = 1 + i / 64 by omega, show (i + k) % 64 = k by omega] at hg
  rw [cStream_l2F, cStream_l2, Int.toNat_natCast, ovr_get hl (i + k) (by omega), ← hg, ovr_set hl (i + k) (by omega), blkS_len]
  rw [bif_true (tt (by omega)), bif_true (tt2 (by omega) (by omega)), bif_true (tt2 (by omega) (by omega)), bif_true (tt2 (by omega) (by omega)), addI_eq (by omega) (by omega)]
  exact ih
theorem st_l1 {X : Type} (fail : X) (ex : Int → List UInt8 → Int → List UInt8 → Int → Int → List UInt8 → Int → X) (key : List UInt8) (nonce : Int) (hr : inR nonce = true) (b b' : List UInt8) (s7 : Int) (hb : b.length ≤ 65536) : ∀ (j m k : Nat), b.length ≤ 64 * (k + j) → j ≤ m →
  ∃ i c, cStream_l1F 2000 fail ex (m + 1) (64 * k : Nat) b' s7 key nonce (1 + k : Nat) (ovr (strS key nonce b) b (64 * k)) 64 = ex i b' s7 key nonce c (strS key nonce b) 64
 | 0, m, k, hk, _ => by
  have hl := strS_len key nonce b
  refine ⟨((64 * k : Nat) : Int), ((1 + k : Nat) : Int), ?_⟩
  rw [cStream_l1F, cStream_l1]
  rw [ovr_all hl _ (by omega), hl, bif_false (ff (by omega))]
 | j + 1, 0, k, _, hm => absurd hm (by omega)
 | j + 1, m + 1, k, hk, hm => by
  have hl := strS_len key nonce b
  have ho := ovr_len hl (64 * k)
  by_cases hlt : 64 * k < b.length
  ·obtain ⟨i, c, ih⟩ := st_l1 fail ex key nonce hr b b' s7 hb j m (k + 1) (by omega) (by omega)
   refine ⟨i, c, ?_⟩
   have emin : minI 64 ((b.length - 64 * k : Nat) : Int) = ((min 64 (b.length - 64 * k) : Nat) : Int) := by rw [minI_eq]; omega
   have eadd : addI ((64 * k : Nat) : Int) ((min 64 (b.length - 64 * k) : Nat) : Int) = ((64 * k + min 64 (b.length - 64 * k) : Nat) : Int) := by rw [addI_eq (by omega) (by omega)]; omega
   rw [cStream_l1F, cStream_l1, ho]
   simp only [Int.toNat_natCast, emin, eadd]
   rw [bif_true (tt (by omega)), bif_true (tt2 (by omega) (by omega)), bif_true (by rw [tt3 (by omega) (by omega) (by omega)]; exact beq_t rfl), bif_true (c := cBlk_P key nonce _) hr]
   rw [show 64 * k + min 64 (b.length - 64 * k) - 64 * k = min 64 (b.length - 64 * k) by omega]
   have hc : cBlk_r key nonce ((1 + k : Nat) : Int) = blkS key nonce ((1 + 64 * k / 64 : Nat) : Int) := by rw [show 64 * k / 64 = k by omega]; rfl
   rw [hc]
   refine (st_l2 2000 fail _ key nonce b b' (64 * k) (min 64 (b.length - 64 * k)) _ s7 _ 64 (by omega) (by omega) (by omega) (min 64 (b.length - 64 * k)) 1999 0 (by omega) (by omega)).trans ?_
   rw [show 64 * k + min 64 (b.length - 64 * k) = min (64 * (k + 1)) b.length by omega, ovr_min hl, show addI ((64 * k : Nat) : Int) 64 = ((64 * (k + 1) : Nat) : Int) by rw [addI_eq (by omega) (by omega)]; omega, show addI ((1 + k : Nat) : Int) 1 = ((1 + (k + 1) : Nat) : Int) by rw [addI_eq (by omega) (by omega)]; omega]
   exact ih
  ·refine ⟨((64 * k : Nat) : Int), ((1 + k : Nat) : Int), ?_⟩
   rw [cStream_l1F, cStream_l1]
   rw [ovr_all hl _ (by omega), hl, bif_false (ff (by omega))]
theorem strE_cases (nonce : Int) (b : List UInt8) : ((b.length : Int) > 65536 ∧ strE nonce b = 5) ∨ (¬ (b.length : Int) > 65536 ∧ inR nonce = false ∧ strE nonce b = 2) ∨ (¬ (b.length : Int) > 65536 ∧ inR nonce = true ∧ strE nonce b = 0) := by
 unfold strE
 by_cases h : (b.length : Int) > 65536
 ·exact .inl ⟨h, if_pos h⟩
 ·rw [if_neg h]
  cases inR nonce with
  | false => exact .inr (.inl ⟨h, rfl, rfl⟩)
  | true => exact .inr (.inr ⟨h, rfl, rfl⟩)
theorem cStream_plain (key : List UInt8) (nonce : Int) (b : List UInt8) (_ : cStream_P key nonce b = true) : ∃ F, ∀ {X : Type} (fail : X) (ret : List UInt8 → Int → X), cStream F key nonce b fail ret = ret (cStream_r0 key nonce b) (cStream_r1 key nonce b) := ⟨2000, fun fail ret => by
 unfold cStream cStream_r0 cStream_r1 cRange_r strV
 rcases strE_cases nonce b with ⟨h, e⟩ | ⟨h, h1, e⟩ | ⟨h, h1, e⟩ <;> rw [e]
 ·rw [bif_true (tt h), if_neg (by omega)]
 ·rw [bif_false (ff h), h1, bif_true (c := !false) rfl, if_neg (by omega)]
 ·rw [bif_false (ff h), h1, bif_false (c := !true) rfl, if_pos rfl, bif_true (c := clone_byte_P b) (tt (by omega))]
  obtain ⟨i, c, hx⟩ := st_l1 fail (fun (_ : Int) (_ : List UInt8) (_ : Int) (_ : List UInt8) (_ : Int) (_ : Int) (out : List UInt8) (_ : Int) => ret out (0 : Int)) key nonce h1 b b 0 (by omega) 1024 1999 0 (by omega) (by omega)
  exact hx⟩
theorem rs_l {X : Type} (F : Nat) (fail : X) (ex : Int → List UInt8 → Int → List UInt8 → List UInt8 → List UInt8 → X) (key : List UInt8) (nonce : Int) (hr : inR nonce = true) (b : List UInt8) (hb : b.length ≤ 65536) : ∀ (j m i : Nat) (blk : List UInt8), i + j = b.length → j ≤ m → (i % 64 ≠ 0 → blk = blkS key nonce ((1 + i / 64 : Nat) : Int)) →
  ∃ blk', rStream_l1F F fail ex (m + 1) nonce b i key ((strS key nonce b).take i) blk = ex nonce b (b.length : Nat) key (strS key nonce b) blk'
 | 0, m, i, blk, hi, _, _ => by
  have hl := strS_len key nonce b
  have e : i = b.length := by omega
  subst e
  refine ⟨blk, ?_⟩
  rw [rStream_l1F, rStream_l1]
  rw [bif_false (ff (by omega)), List.take_of_length_le (by omega)]
 | j + 1, 0, i, _, _, hm, _ => absurd hm (by omega)
 | j + 1, m + 1, i, blk, hi, hm, hk => by
  have hl := strS_len key nonce b
  have hg := strS_get key nonce b i (by omega)
  have er : remI (i : Int) 64 = ((i % 64 : Nat) : Int) := by rw [remI_eq (by omega)]; omega
  have ec : addI 1 (quoI (i : Int) 64) = ((1 + i / 64 : Nat) : Int) := by rw [quoI_eq (by omega) (by omega) (by omega), addI_eq (by omega) (by omega)]; omega
  have hbk : rBlock_r0 key nonce ((1 + i / 64 : Nat) : Int) = blkS key nonce ((1 + i / 64 : Nat) : Int) := by
   unfold rBlock_r0
   rw [if_pos (by unfold blkE; rw [if_pos ⟨hr, by omega, by omega⟩])]
  have hb64 := blkS_len key nonce ((1 + i / 64 : Nat) : Int)
  obtain ⟨blk', ih⟩ := rs_l F fail ex key nonce hr b hb j m (i + 1) (blkS key nonce ((1 + i / 64 : Nat) : Int)) (by omega) (by omega) (fun h => by rw [show (i + 1) / 64 = i / 64 by omega])
  refine ⟨blk', ?_⟩
  rw [take_snoc (strS key nonce b) i 0 (by omega), hg] at ih
  have hlt : ((strS key nonce b).take i ++ [xorB (b.getD i 0) ((blkS key nonce ((1 + i / 64 : Nat) : Int)).getD (i % 64) 0)]).length ≤ 2147483648 := by
   rw [List.length_append, List.length_take]; show min i _ + 1 ≤ _; omega
  rw [rStream_l1F, rStream_l1, er, ec, hbk]
  simp only [Int.toNat_natCast]
  rw [bif_true (tt (by omega))]
  by_cases h0 : i % 64 = 0
  ·rw [bif_true (beq_t (by omega)), bif_true (c := rBlock_P _ _ _) rfl, bif_true (tt2 (by omega) (by omega)), bif_true (tt2 (by omega) (by omega)), bif_true (le_big hlt), addI_eq (by omega) (by omega)]
   exact ih
  ·rw [hk h0, bif_false (beq_f (by omega)), bif_true (tt2 (by omega) (by omega)), bif_true (tt2 (by omega) (by omega)), bif_true (le_big hlt), addI_eq (by omega) (by omega)]
   exact ih
theorem rStream_plain (key : List UInt8) (nonce : Int) (b : List UInt8) (_ : rStream_P key nonce b = true) : ∃ F, ∀ {X : Type} (fail : X) (ret : List UInt8 → Int → X), rStream F key nonce b fail ret = ret (rStream_r0 key nonce b) (rStream_r1 key nonce b) := ⟨70000, fun fail ret => by
 unfold rStream rStream_r0 rStream_r1 rNonces_r strV
 rcases strE_cases nonce b with ⟨h, e⟩ | ⟨h, h1, e⟩ | ⟨h, h1, e⟩ <;> rw [e]
 ·rw [bif_true (tt h), if_neg (by omega)]
 ·rw [bif_false (ff h), h1, bif_true (c := !false) rfl, if_neg (by omega)]
 ·rw [bif_false (ff h), h1, bif_false (c := !true) rfl, if_pos rfl]
  obtain ⟨c, hx⟩ := rs_l 70000 fail (fun (_ : Int) (_ : List UInt8) (_ : Int) (_ : List UInt8) (out : List UInt8) (_ : List UInt8) => ret out (0 : Int)) key nonce h1 b (by omega) b.length 69999 0 [] (by omega) (by omega) (fun h => absurd rfl h)
  exact hx⟩
end Go.AI
