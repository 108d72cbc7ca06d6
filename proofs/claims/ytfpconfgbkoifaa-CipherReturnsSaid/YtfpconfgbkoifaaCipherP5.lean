/- The laws of the chapter on plain values. -/
import Derived.Test.YtfpconfgbkoifaaCipherG3
import Derived.Test.YtfpconfgbkoifaaCipherP4
namespace Go.AI
open Go

theorem awk47 : law47_awake_r = true := rfl
theorem eqY {a b : List UInt8} (h : a = b) : bytes_Equal_r a b = true := beq_iff_eq.2 h
theorem beq32 {a b : List UInt8} (h : a = b) : beqT (.arr 32 (.int .u8)) a b = true := by rw [beqT_u8, decide_eq_true h]
theorem short_P (l : List (List UInt8)) (h : l.length ≤ 2) : law47_short_P l = true := tt (by omega)
theorem minI_take (b : List UInt8) : ∃ n : Nat, minI ((b.length : Nat) : Int) 100 = n ∧ n ≤ b.length ∧ n ≤ 100 := ⟨min b.length 100, by rw [minI_eq]; omega, by omega, by omega⟩

def CipherBlocks_P (_ : List UInt8) (_ _ : Int) : Bool := true
def CipherBlocks_r (_ : List UInt8) (_ _ : Int) : Bool := true
theorem CipherBlocks_plain (key : List UInt8) (n c : Int) (_ : CipherBlocks_P key n c = true) : ∃ F, ∀ {X : Type} (fail : X) (ret : Bool → X), CipherBlocks F key n c fail ret = ret (CipherBlocks_r key n c) := ⟨0, fun fail ret => by
  unfold CipherBlocks
  have a4 : bytes_Equal_r (cBlock_r0 key n c) (rBlock_r0 key n c) = true := eqY rfl
  have a5 : (cBlock_r1 key n c == rBlock_r1 key n c) = true := beq_t rfl
  rw [bif_true (c := cBlock_P key n c) rfl, bif_true (c := rBlock_P key n c) rfl, a4, a5]; rfl⟩

def CipherStreams_P (_ : List UInt8) (_ : Int) (_ : List UInt8) : Bool := true
def CipherStreams_r (_ : List UInt8) (_ : Int) (_ : List UInt8) : Bool := true
theorem CipherStreams_plain (key : List UInt8) (n : Int) (b : List UInt8) (_ : CipherStreams_P key n b = true) : ∃ F, ∀ {X : Type} (fail : X) (ret : Bool → X), CipherStreams F key n b fail ret = ret (CipherStreams_r key n b) := ⟨0, fun fail ret => by
  unfold CipherStreams
  obtain ⟨m, hm, h1, h2⟩ := minI_take b
  rw [bif_true (short_P _ (by simp)), hm, Int.toNat_natCast]
  have hk : cKeys_P (b.take m) = true := tt (by rw [List.length_take]; omega)
  have hk' : rKeys_P (b.take m) = true := tt (by rw [List.length_take]; omega)
  have a1 : cStream_P key n b = true := rfl
  have a2 : rStream_P key n b = true := rfl
  have a3 : (decide ((0 : Int) ≤ (m : Int)) && decide ((m : Int) ≤ (b.length : Int))) = true := tt2 (by omega) (by omega)
  have a4 : bytes_Equal_r (cStream_r0 key n b) (rStream_r0 key n b) = true := eqY rfl
  have a5 : (cStream_r1 key n b == rStream_r1 key n b) = true := beq_t rfl
  have a6 : beqT (.arr 32 (.int .u8)) (cKeys_r0 (b.take m)) (rKeys_r0 (b.take m)) = true := beq32 rfl
  have a7 : beqT (.arr 32 (.int .u8)) (cKeys_r1 (b.take m)) (rKeys_r1 (b.take m)) = true := beq32 rfl
  simp only [a1, a2, a3, a4, a5, a6, a7, hk, hk', cond_true]
  simp only [ite_bool]
  repeat' split
  all_goals rfl⟩

def CipherSeals_P (_ : List UInt8) (_ : Int) (_ : List UInt8) : Bool := true
def CipherSeals_r (_ : List UInt8) (_ : Int) (_ : List UInt8) : Bool := true
theorem CipherSeals_plain (key : List UInt8) (n : Int) (b : List UInt8) (_ : CipherSeals_P key n b = true) : ∃ F, ∀ {X : Type} (fail : X) (ret : Bool → X), CipherSeals F key n b fail ret = ret (CipherSeals_r key n b) := ⟨0, fun fail ret => by
  unfold CipherSeals
  have a4 : bytes_Equal_r (cSeal_r0 key n b) (rSeal_r0 key n b) = true := eqY rfl
  have a5 : (cSeal_r1 key n b == rSeal_r1 key n b) = true := beq_t rfl
  rw [bif_true (short_P _ (by simp)), bif_true (c := cSeal_P key n b) rfl, bif_true (c := rSeal_P key n b) rfl, a4, a5]
  cases law47_short_r [key, b] <;> rfl⟩

def CipherOpens_P (_ : List UInt8) (_ : Int) (_ : List UInt8) : Bool := true
def CipherOpens_r (_ : List UInt8) (_ : Int) (_ : List UInt8) : Bool := true
theorem CipherOpens_plain (key : List UInt8) (n : Int) (b : List UInt8) (_ : CipherOpens_P key n b = true) : ∃ F, ∀ {X : Type} (fail : X) (ret : Bool → X), CipherOpens F key n b fail ret = ret (CipherOpens_r key n b) := ⟨0, fun fail ret => by
  unfold CipherOpens
  have a1 : cOpen_P key n b = true := rfl
  have a2 : rOpen_P key n b = true := rfl
  have a4 : bytes_Equal_r (cOpen_r0 key n b) (rOpen_r0 key n b) = true := eqY rfl
  have a5 : (cOpen_r1 key n b == rOpen_r1 key n b) = true := beq_t rfl
  rw [bif_true (short_P _ (by simp))]
  simp only [a1, a2, a4, a5, cond_true]
  simp only [ite_bool]
  repeat' split
  all_goals rfl⟩

/- The stream is an exclusive or. -/
theorem list_ext0 {a b : List UInt8} (hl : a.length = b.length) (h : ∀ p, p < a.length → a.getD p 0 = b.getD p 0) : a = b := by
  apply List.ext_getElem hl
  intro i h1 h2
  have := h i h1
  rwa [getD_lt h1, getD_lt h2] at this
theorem xorB_twice (a k : UInt8) : xorB (xorB a k) k = a := by
  rw [xorB_eq, xorB_eq, UInt8.xor_assoc, UInt8.xor_self, UInt8.xor_zero]
theorem strS_twice (key : List UInt8) (n : Int) (b : List UInt8) : strS key n (strS key n b) = b := by
  have h1 := strS_len key n b
  have h2 := strS_len key n (strS key n b)
  refine list_ext0 (by omega) fun p hp => ?_
  rw [strS_get key n _ p (by omega), strS_get key n b p (by omega), xorB_twice]
theorem strS_take (key : List UInt8) (n : Int) (b : List UInt8) (m : Nat) : strS key n (b.take m) = (strS key n b).take m := by
  have h1 := strS_len key n b
  have h2 := strS_len key n (b.take m)
  have h3 : (b.take m).length = min m b.length := List.length_take
  refine list_ext0 (by rw [List.length_take]; omega) fun p hp => ?_
  rw [strS_get key n _ p (by omega), getD_take _ _ _ _ (by omega), getD_take _ _ _ _ (by omega), strS_get key n b p (by omega)]
theorem strS_xor (key : List UInt8) (n : Int) (a b : List UInt8) (h : a.length = b.length) (p : Nat) (hp : p < a.length) : (strS key n (xorL a b)).getD p 0 = xorB ((strS key n a).getD p 0) (b.getD p 0) := by
  have hl : (xorL a b).length = a.length := by unfold xorL; rw [List.length_zipWith]; omega
  rw [strS_get key n _ p (by omega), strS_get key n a p hp, xorL_getD _ _ _ hp (by omega)]
  simp only [xorB_eq]
  rw [UInt8.xor_assoc, UInt8.xor_assoc, UInt8.xor_comm (b.getD p 0)]
theorem nonce32 (n : UInt32) : inR (cvWI n) = true := by
  have := n.toNat_lt
  rw [cvWI_eq]; exact inR_iff.2 (by omega)

theorem inv_l1 {X : Type} (F : Nat) (fail : X) (ex : Bool → Int → Int → Int → Int → Int → Int → List UInt8 → List (List UInt8) → List UInt8 → List UInt8 → List UInt8 → List UInt8 → X) (s6 : Bool) (n e f g : Int) (key : List UInt8) (b : List (List UInt8)) (x y z m0 b1 : List UInt8)
    (hb : b.getD 1 [] = b1) (hl : b1.length = m0.length) (hs : m0.length ≤ 300) : ∀ (j m i : Nat), i + j = m0.length → j ≤ m →
    CipherInverts_l1F F fail ex (m + 1) s6 n e f g ((m0.length : Nat) : Int) i key b x y z (ovr (xorL m0 b1) m0 i) = ex s6 n e f g ((m0.length : Nat) : Int) (m0.length : Nat) key b x y z (xorL m0 b1)
  | 0, m, i, hi, _ => by
    have e : i = m0.length := by omega
    subst e
    have hx : (xorL m0 b1).length = m0.length := by unfold xorL; rw [List.length_zipWith]; omega
    rw [CipherInverts_l1F, CipherInverts_l1]
    rw [bif_false (ff (by omega)), ovr_all hx _ (by omega)]
  | j + 1, 0, i, _, hm => absurd hm (by omega)
  | j + 1, m + 1, i, hi, hm => by
    have hx : (xorL m0 b1).length = m0.length := by unfold xorL; rw [List.length_zipWith]; omega
    have ih := inv_l1 F fail ex s6 n e f g key b x y z m0 b1 hb hl hs j m (i + 1) (by omega) (by omega)
    rw [CipherInverts_l1F, CipherInverts_l1]
    rw [hb, Int.toNat_natCast, ovr_len hx, ovr_get hx i (by omega), ← xorL_getD _ _ _ (by omega) (by omega), ovr_set hx i (by omega)]
    rw [bif_true (tt (by omega)), bif_true (tt2 (by omega) (by omega)), bif_true (tt2 (by omega) (by omega)), bif_true (tt2 (by omega) (by omega)), addI_eq (by omega) (by omega)]
    exact ih
theorem inv_l2 {X : Type} (F : Nat) (fail : X) (ex0 ex1 : Bool → Int → Int → List (List UInt8) → List UInt8 → List UInt8 → X) (s6 : Bool) (b : List (List UInt8)) (z w b1 : List UInt8)
    (hb : b.getD 1 [] = b1) (hl : b1.length = w.length) (hz : z.length = w.length) (hs : w.length ≤ 300) (hw : ∀ p, p < w.length → w.getD p 0 = xorB (z.getD p 0) (b1.getD p 0)) : ∀ (j m i : Nat), i + j = w.length → j ≤ m →
    CipherInverts_l2F F fail ex0 ex1 (m + 1) s6 ((w.length : Nat) : Int) i b z w = ex1 s6 ((w.length : Nat) : Int) (w.length : Nat) b z w
  | 0, m, i, hi, _ => by
    have e : i = w.length := by omega
    subst e
    rw [CipherInverts_l2F, CipherInverts_l2]
    rw [bif_false (ff (by omega))]
  | j + 1, 0, i, _, hm => absurd hm (by omega)
  | j + 1, m + 1, i, hi, hm => by
    have ih := inv_l2 F fail ex0 ex1 s6 b z w b1 hb hl hz hs hw j m (i + 1) (by omega) (by omega)
    rw [CipherInverts_l2F, CipherInverts_l2]
    rw [hb, Int.toNat_natCast, ← hw i (by omega)]
    rw [bif_true (tt (by omega)), bif_true (tt2 (by omega) (by omega)), bif_true (tt2 (by omega) (by omega)), bif_true (tt2 (by omega) (by omega)), bif_false (bne_f rfl), addI_eq (by omega) (by omega)]
    exact ih
def CipherInverts_P (_ : List UInt8) (_ : UInt32) (_ : List (List UInt8)) : Bool := true
def CipherInverts_r (_ : List UInt8) (_ : UInt32) (_ : List (List UInt8)) : Bool := true
theorem CipherInverts_plain (key : List UInt8) (nonce : UInt32) (b : List (List UInt8)) (_ : CipherInverts_P key nonce b = true) : ∃ F, ∀ {X : Type} (fail : X) (ret : Bool → X), CipherInverts F key nonce b fail ret = ret (CipherInverts_r key nonce b) := ⟨400, fun fail ret => by
  unfold CipherInverts
  obtain ⟨b0, e0⟩ : ∃ b0, b.getD 0 [] = b0 := ⟨_, rfl⟩
  obtain ⟨b1, e1⟩ : ∃ b1, b.getD 1 [] = b1 := ⟨_, rfl⟩
  have hn := nonce32 nonce
  generalize cvWI nonce = n at hn ⊢
  rw [e0, e1]
  by_cases h1 : (b0.length : Int) > 300
  · rw [bif_true (tt h1)]; rfl
  by_cases h2 : (b1.length : Int) > b0.length
  · rw [bif_false (ff h1), bif_true (tt h2)]; rfl
  rw [bif_false (ff h1), bif_false (ff h2)]
  have hl0 := strS_len key n b0
  have hlt : (b0.take b1.length).length = b1.length := by rw [List.length_take]; omega
  have hz := strS_len key n (b0.take b1.length)
  have hx : (xorL (b0.take b1.length) b1).length = b1.length := by unfold xorL; rw [List.length_zipWith]; omega
  have hw := strS_len key n (xorL (b0.take b1.length) b1)
  have v0 : cStream_r0 key n b0 = strS key n b0 := strV_ok (by omega) hn
  have v1 : cStream_r0 key n (strS key n b0) = b0 := (strV_ok (by omega) hn).trans (strS_twice key n b0)
  have v2 : cStream_r0 key n (b0.take b1.length) = (strS key n b0).take b1.length := (strV_ok (by omega) hn).trans (strS_take key n b0 b1.length)
  have v3 : cStream_r0 key n (xorL (b0.take b1.length) b1) = strS key n (xorL (b0.take b1.length) b1) := strV_ok (by omega) hn
  have c0 : cStream_r1 key n b0 = 0 := strE_ok (by omega) hn
  have c1 : cStream_r1 key n (strS key n b0) = 0 := strE_ok (by omega) hn
  have c2 : cStream_r1 key n (b0.take b1.length) = 0 := strE_ok (by omega) hn
  have c3 : cStream_r1 key n (xorL (b0.take b1.length) b1) = 0 := strE_ok (by omega) hn
  rw [v0, v1, v2, c0, c1, c2, bif_true (c := cStream_P key n b0) rfl, bif_true (c := cStream_P key n (strS key n b0)) rfl, bif_true (tt2 (by omega) (by omega)), bif_true (c := cStream_P key n (b0.take b1.length)) rfl, bif_true (tt2 (by omega) (by omega)), bif_true (c := clone_byte_P (b0.take b1.length)) (tt (by omega)),
    show clone_byte_r (b0.take b1.length) = b0.take b1.length from rfl]
  refine (inv_l1 400 fail _ false n 0 0 0 key b _ _ _ (b0.take b1.length) b1 e1 hlt.symm (by omega) (b0.take b1.length).length 399 0 (by omega) (by omega)).trans ?_
  rw [e0, e1, v3, c3]
  rw [bif_true (c := cStream_P key n _) rfl, bif_false (c := addI (addI (addI 0 0) 0) 0 != 0) rfl, bif_false (c := !(bytes_Equal_r b0 b0)) (by rw [eqY rfl]; rfl), bif_false (bne_f (by omega)), bif_true (tt2 (by omega) (by omega)), bif_false (c := !(bytes_Equal_r (List.take b1.length (strS key n b0)) _)) (by rw [eqY rfl]; rfl), bif_false (bne_f (by omega))]
  refine (inv_l2 400 fail _ _ false b _ (strS key n (xorL (b0.take b1.length) b1)) b1 e1 (by omega) (by rw [← strS_take]; omega) (by omega) (fun p hp => ?_) _ 399 0 (Nat.zero_add _) (by omega)).trans rfl
  rw [strS_xor key n _ _ hlt p (by omega), strS_take]⟩

/- The blocks one behind the other. -/
def blkTo (key : List UInt8) (n : Int) : Nat → List UInt8
  | 0 => []
  | i + 1 => blkTo key n i ++ blkS key n ((i + 1 : Nat) : Int)
theorem blkTo_len (key : List UInt8) (n : Int) : ∀ i, (blkTo key n i).length = 64 * i
  | 0 => rfl
  | i + 1 => by rw [blkTo, List.length_append, blkTo_len key n i, blkS_len]; omega
theorem blkTo_get (key : List UInt8) (n : Int) : ∀ i p, p < 64 * i → (blkTo key n i).getD p 0 = (blkS key n ((1 + p / 64 : Nat) : Int)).getD (p % 64) 0
  | 0, p, h => absurd h (by omega)
  | i + 1, p, h => by
    have hl := blkTo_len key n i
    rw [blkTo, List.getD_eq_getElem?_getD]
    by_cases c : p < 64 * i
    · rw [List.getElem?_append_left (by omega), ← List.getD_eq_getElem?_getD, blkTo_get key n i p c]
    · rw [List.getElem?_append_right (by omega), ← List.getD_eq_getElem?_getD, hl]
      have e1 : p - 64 * i = p % 64 := by omega
      have e2 : i + 1 = 1 + p / 64 := by omega
      rw [e1, e2]
theorem cnt_l1 {X : Type} (F : Nat) (fail : X) (ex0 ex1 : UInt32 → Bool → Int → Int → List UInt8 → List UInt8 → List UInt8 → List UInt8 → X) (nonce : UInt32) (s6 : Bool) (e : Int) (key b x : List UInt8) : ∀ (j m i : Nat), i + j = 5 → j ≤ m →
    CipherCounts_l1F F fail ex0 ex1 (m + 1) nonce s6 e i key b x (blkTo key (cvWI nonce) i) = ex1 nonce s6 e (5 : Nat) key b x (blkTo key (cvWI nonce) 5)
  | 0, m, i, hi, _ => by
    have e : i = 5 := by omega
    subst e
    rw [CipherCounts_l1F, CipherCounts_l1]
    rw [bif_false (ff (by omega))]
  | j + 1, 0, i, _, hm => absurd hm (by omega)
  | j + 1, m + 1, i, hi, hm => by
    have ih := cnt_l1 F fail ex0 ex1 nonce s6 e key b x j m (i + 1) (by omega) (by omega)
    have hn := nonce32 nonce
    have ha : addI (i : Int) 1 = ((i + 1 : Nat) : Int) := by rw [addI_eq (by omega) (by omega)]; omega
    have he : blkE (cvWI nonce) ((i + 1 : Nat) : Int) = 0 := by
      unfold blkE; rw [if_pos ⟨hn, by omega, by omega⟩]
    have hv : cBlock_r0 key (cvWI nonce) ((i + 1 : Nat) : Int) = blkS key (cvWI nonce) ((i + 1 : Nat) : Int) := if_pos he
    have hl := blkTo_len key (cvWI nonce) (i + 1)
    rw [blkTo] at hl ih
    rw [CipherCounts_l1F, CipherCounts_l1]
    rw [ha, hv, show cBlock_r1 key (cvWI nonce) ((i + 1 : Nat) : Int) = 0 from he, blkS_len]
    rw [bif_true (tt (by omega)), bif_true (c := cBlock_P _ _ _) rfl, bif_false (bne_f rfl), bif_false (c := ((64 : Nat) : Int) != 64) rfl, bif_true (le_big (by omega))]
    exact ih
def CipherCounts_P (_ : List UInt8) (_ : UInt32) (l : Int) : Bool := decide (0 ≤ l ∧ l ≤ 65535)
def CipherCounts_r (_ : List UInt8) (_ : UInt32) (_ : Int) : Bool := true
theorem CipherCounts_plain (key : List UInt8) (nonce : UInt32) (l : Int) (h : CipherCounts_P key nonce l = true) : ∃ F, ∀ {X : Type} (fail : X) (ret : Bool → X), CipherCounts F key nonce l fail ret = ret (CipherCounts_r key nonce l) := ⟨99, fun fail ret => by
  simp only [CipherCounts_P, decide_eq_true_eq] at h
  have hr : remH l 300 = ((l.toNat % 300 : Nat) : Int) := by
    show l.tmod 300 = _
    rw [Int.tmod_eq_emod_of_nonneg h.1]; omega
  have hlt : l.toNat % 300 < 300 := Nat.mod_lt _ (by omega)
  unfold CipherCounts
  rw [hr, Int.toNat_natCast]
  generalize l.toNat % 300 = n at hlt ⊢
  have hn := nonce32 nonce
  have hz : (List.replicate n (0 : UInt8)).length = n := List.length_replicate
  have e1 : cStream_r1 key (cvWI nonce) (List.replicate n 0) = 0 := strE_ok (by omega) hn
  have e0 : cStream_r0 key (cvWI nonce) (List.replicate n 0) = strS key (cvWI nonce) (List.replicate n 0) := strV_ok (by omega) hn
  have hs := strS_len key (cvWI nonce) (List.replicate n 0)
  have hb := blkTo_len key (cvWI nonce) 5
  have hf : (decide ((0 : Int) ≤ (n : Int)) && true && decide ((n : Int) ≤ ((big : Nat) : Int))) = true := by
    rw [tt (by omega), tt (by unfold big; omega)]; rfl
  rw [bif_true hf, bif_true (c := cStream_P _ _ _) rfl, e1, e0]
  refine (cnt_l1 99 fail _ _ nonce false 0 key _ _ 5 98 0 rfl (by omega)).trans ?_
  rw [bif_true (beq_t rfl), bif_true (tt2 (by omega) (by omega)), bif_true (c := bytes_Equal_r _ _) (eqY ?_)]
  · rfl
  · refine list_ext0 (by rw [List.length_take]; omega) fun p hp => ?_
    rw [strS_get key _ _ p (by omega), getD_take _ _ _ _ (by omega), blkTo_get key _ 5 p (by omega), getD_lt (by omega), List.getElem_replicate, xorB_zero]⟩

/- What is sealed is opened. -/
theorem seal_open (k : List UInt8) (n : Int) (b : List UInt8) (hk : 1 ≤ k.length ∧ k.length ≤ 64) (hn : inR n = true) (hb : b.length ≤ 300) :
    seaE k n b = 0 ∧ (seaV k n b).length = b.length + 16 ∧ opeE k n (seaV k n b) = 0 ∧ opeV k n (seaV k n b) = b := by
  have hu := useK_iff.2 hk
  have e : seaE k n b = 0 := by
    unfold seaE; rw [if_pos hu, if_neg (by omega), if_pos hn]
  have hs := strS_len (key0 k) n b
  have ht := tagS_len (key1 k) n (strS (key0 k) n b)
  have v : seaV k n b = strS (key0 k) n b ++ tagS (key1 k) n (strS (key0 k) n b) := if_pos e
  have hl : (seaV k n b).length = b.length + 16 := by rw [v, List.length_append]; omega
  have t1 : (seaV k n b).take ((seaV k n b).length - 16) = strS (key0 k) n b := by
    rw [hl, v, List.take_append_of_le_length (by omega), List.take_of_length_le (by omega)]
  have t2 : (seaV k n b).drop ((seaV k n b).length - 16) = tagS (key1 k) n (strS (key0 k) n b) := by
    rw [hl, v]; exact List.drop_left' (by omega)
  have e2 : opeE k n (seaV k n b) = 0 := by
    unfold opeE; rw [if_pos hu, if_neg (by omega), if_pos hn, if_neg (by omega), t1, t2, if_pos rfl]
  refine ⟨e, hl, e2, ?_⟩
  unfold opeV; rw [if_pos e2, t1, strS_twice]
def CipherReturns_P (_ : List UInt8) (n : Int) (_ : List UInt8) : Bool := decide (0 ≤ n)
def CipherReturns_r (_ : List UInt8) (_ : Int) (_ : List UInt8) : Bool := true
theorem CipherReturns_plain (key : List UInt8) (n : Int) (b : List UInt8) (h : CipherReturns_P key n b = true) : ∃ F, ∀ {X : Type} (fail : X) (ret : Bool → X), CipherReturns F key n b fail ret = ret (CipherReturns_r key n b) := ⟨0, fun fail ret => by
  simp only [CipherReturns_P, decide_eq_true_eq] at h
  have hr : remU n 9007199254740992 = n % 9007199254740992 := Int.tmod_eq_emod_of_nonneg h
  have h1 := Int.emod_nonneg n (show (9007199254740992 : Int) ≠ 0 by omega)
  have h2 := Int.emod_lt_of_pos n (show (0 : Int) < 9007199254740992 by omega)
  have hc : cvUI (n % 9007199254740992) = n % 9007199254740992 := by
    show IntKind.i64.wrap (n % 9007199254740992) = _
    exact wrap_i64_id (by omega) (by omega)
  unfold CipherReturns
  rw [hr, hc]
  have hn : inR (n % 9007199254740992) = true := inR_iff.2 (by omega)
  generalize n % 9007199254740992 = q at hn ⊢
  by_cases k1 : (key.length : Int) < 1
  · rw [bif_true (tt k1)]; rfl
  by_cases k2 : (key.length : Int) > 64
  · rw [bif_false (ff k1), bif_true (tt k2)]; rfl
  by_cases k3 : (b.length : Int) > 300
  · rw [bif_false (ff k1), bif_false (ff k2), bif_true (tt k3)]; rfl
  obtain ⟨s1, s2, s3, s4⟩ := seal_open key q b (by omega) hn (by omega)
  rw [show cSeal_r0 key q b = seaV key q b from rfl]
  rw [bif_false (ff k1), bif_false (ff k2), bif_false (ff k3), bif_true (c := cSeal_P _ _ _) rfl, bif_true (c := cOpen_P _ _ _) rfl, bif_true (c := cSeal_r1 _ _ _ == 0) (beq_t s1), bif_true (c := cOpen_r1 _ _ _ == 0) (beq_t s3),
    bif_true (beq_t (by rw [addI_eq (by omega) (by omega)]; omega)), bif_true (c := bytes_Equal_r (cOpen_r0 key q (seaV key q b)) b) (eqY s4)]; rfl⟩

/- A change is noticed. -/
theorem noti {X : Type} (fail : X) (ret : Bool → X) (o : List UInt8) (n : Int) (y T : List UInt8) (L : Nat) (q : Nat → Nat) (hq : ∀ i, q i = i) (ho : 1 ≤ o.length ∧ o.length ≤ 64) (hn : inR n = true) (hL : L = y.length) (hy : y.length ≤ 65536) (hT : T.take L = y) :
    (bif rKeys_P o then
    bif cOpen_P o n y then
    bif (decide ((L : Int) < (16 : Int))) then
      bif ((cOpen_r1 o n y) == (9 : Int)) then ret law47_awake_r else ret false
    else
    bif ((decide ((0 : Int) ≤ (subI (L : Int) (16 : Int)))) && (decide ((subI (L : Int) (16 : Int)) ≤ (L : Int)))) then
    bif (rTag_P (rKeys_r1 o) n (List.take ((subI (L : Int) (16 : Int))).toNat T)) then
    bif ((decide ((0 : Int) ≤ (subI (L : Int) (16 : Int)))) && (decide ((subI (L : Int) (16 : Int)) ≤ (L : Int)))) then
    bif (((cOpen_r1 o n y) == (0 : Int)) == (bytes_Equal_r (rTag_r (rKeys_r1 o) n (List.take ((subI (L : Int) (16 : Int))).toNat T)) (List.take (L - ((subI (L : Int) (16 : Int))).toNat) (List.drop (q ((subI (L : Int) (16 : Int))).toNat) T)))) then
      bif (bytes_Equal_r (rTag_r (rKeys_r1 o) n (List.take ((subI (L : Int) (16 : Int))).toNat T)) (List.take (L - ((subI (L : Int) (16 : Int))).toNat) (List.drop (q ((subI (L : Int) (16 : Int))).toNat) T))) then
        ret law47_awake_r
      else
      bif ((cOpen_r1 o n y) == (25 : Int)) then ret law47_awake_r else ret false
    else
    ret false
    else fail
    else fail
    else fail
    else fail
    else fail) = ret true := by
  have htk : ∀ m, m ≤ L → T.take m = y.take m := fun m hm => by rw [← hT, List.take_take, Nat.min_eq_left hm]
  have hdp : ∀ m, (T.drop m).take (L - m) = y.drop m := fun m => by rw [← hT, List.drop_take]
  subst hL
  have hsub : subI (y.length : Int) 16 = (y.length : Int) - 16 := subI_eq (by omega) (by omega)
  rw [bif_true (c := rKeys_P o) (tt (by omega)), bif_true (c := cOpen_P o n y) rfl, hsub, hq]
  rcases opeE_cases o n y with ⟨h, e⟩ | ⟨h, h1, e⟩ | ⟨h, h1, h2, e⟩ | ⟨h, h1, h2, h3, e⟩ | ⟨h, h1, h2, h3, h4, e⟩ | ⟨h, h1, h2, h3, h4, e⟩
  · rw [useK_iff.2 ho] at h; cases h
  · exact absurd hy (by omega)
  · rw [hn] at h2; cases h2
  · rw [bif_true (tt (by omega)), bif_true (c := cOpen_r1 o n y == 9) (beq_t e)]; rfl
  all_goals
    have hs16 : ((y.length : Int) - 16).toNat = y.length - 16 := by omega
    rw [hs16, htk _ (by omega), hdp, bif_false (ff (by omega)), bif_true (tt2 (by omega) (by omega))]
    have hp : rTag_P (rKeys_r1 o) n (y.take (y.length - 16)) = true := by
      unfold rTag_P; rw [hn, Bool.true_and]; exact tt ⟨key1_len o, by rw [List.length_take]; omega⟩
    rw [bif_true hp, bif_true (tt2 (by omega) (by omega))]
  · have hb : bytes_Equal_r (rTag_r (rKeys_r1 o) n (y.take (y.length - 16))) (y.drop (y.length - 16)) = false := beq_eq_false_iff_ne.2 h4
    rw [hb, show cOpen_r1 o n y = 25 from e]; rfl
  · have hb : bytes_Equal_r (rTag_r (rKeys_r1 o) n (y.take (y.length - 16))) (y.drop (y.length - 16)) = true := eqY h4
    rw [hb, show cOpen_r1 o n y = 0 from e]; rfl
def CipherNotices_P (_ _ : List UInt8) (_ : UInt8 × (UInt8 × (UInt8 × Unit))) : Bool := true
def CipherNotices_r (_ _ : List UInt8) (_ : UInt8 × (UInt8 × (UInt8 × Unit))) : Bool := true
theorem CipherNotices_plain (key b : List UInt8) (c : UInt8 × (UInt8 × (UInt8 × Unit))) (_ : CipherNotices_P key b c = true) : ∃ F, ∀ {X : Type} (fail : X) (ret : Bool → X), CipherNotices F key b c fail ret = ret (CipherNotices_r key b c) := ⟨0, fun fail ret => by
  unfold CipherNotices
  by_cases k1 : (key.length : Int) < 1
  · rw [bif_true (tt k1)]; rfl
  by_cases k2 : (key.length : Int) > 64
  · rw [bif_false (ff k1), bif_true (tt k2)]; rfl
  by_cases k3 : (b.length : Int) > 300
  · rw [bif_false (ff k1), bif_false (ff k2), bif_true (tt k3)]; rfl
  obtain ⟨s1, s2, _, _⟩ := seal_open key 9 b (by omega) rfl (by omega)
  obtain ⟨S, hS⟩ : ∃ S, cSeal_r0 key 9 b = S := ⟨_, rfl⟩
  have hl : S.length = b.length + 16 := by rw [← hS]; exact s2
  rw [bif_false (ff k1), bif_false (ff k2), bif_false (ff k3), bif_true (c := cSeal_P _ _ _) rfl, show cSeal_r1 key 9 b = 0 from s1, bif_false (bne_f rfl), hS, bif_false (bne_f (by rw [addI_eq (by omega) (by omega)]; omega)),
    show clone_byte_r key = key from rfl, show clone_byte_r S = S from rfl, bif_true (c := clone_byte_P key) (tt (by omega)), bif_true (c := clone_byte_P S) (tt (by omega))]
  have hu := c.2.1.toNat_lt
  have hv := c.2.2.1.toNat_lt
  have hR : remI (cvBI c.2.1) (S.length : Int) = ((c.2.1.toNat % S.length : Nat) : Int) := by rw [cvBI_eq, remI_eq (by omega), Int.natCast_emod]
  have hRl : c.2.1.toNat % S.length < S.length := Nat.mod_lt _ (by omega)
  have hQ : remI (cvBI c.2.1) (key.length : Int) = ((c.2.1.toNat % key.length : Nat) : Int) := by rw [cvBI_eq, remI_eq (by omega), Int.natCast_emod]
  have hQl : c.2.1.toNat % key.length < key.length := Nat.mod_lt _ (by omega)
  have hM : subI (subI (S.length : Int) 1) ((c.2.1.toNat % S.length : Nat) : Int) = ((S.length - 1 - c.2.1.toNat % S.length : Nat) : Int) := by
    rw [subI_eq (a := (S.length : Int)) (by omega) (by omega), subI_eq (by omega) (by omega)]; omega
  have hA : addI 9 (addI 1 (cvBI c.2.2.1)) = 10 + (c.2.2.1.toNat : Int) := by
    rw [cvBI_eq, addI_eq (a := 1) (by omega) (by omega), addI_eq (by omega) (by omega)]; omega
  simp only [hR, hQ, hM, hA, Int.toNat_natCast]
  generalize c.2.1.toNat % S.length = r at hRl ⊢
  generalize c.2.1.toNat % key.length = q at hQl ⊢
  rw [bif_true (c := (S.length : Int) != 0) (bne_t (by omega)), bif_true (c := (S.length : Int) != 0) (bne_t (by omega)), bif_true (c := (key.length : Int) != 0) (bne_t (by omega)), bif_true (c := decide ((0 : Int) ≤ (r : Int)) && decide ((r : Int) < (S.length : Int))) (tt2 (by omega) (by omega)), bif_true (c := decide ((0 : Int) ≤ (r : Int)) && decide ((r : Int) < (S.length : Int))) (tt2 (by omega) (by omega)),
    bif_true (c := decide ((0 : Int) ≤ (q : Int)) && decide ((q : Int) < (key.length : Int))) (tt2 (by omega) (by omega)), bif_true (c := decide ((0 : Int) ≤ (q : Int)) && decide ((q : Int) < (key.length : Int))) (tt2 (by omega) (by omega)),
    bif_true (c := decide ((0 : Int) ≤ ((S.length - 1 - r : Nat) : Int)) && decide (((S.length - 1 - r : Nat) : Int) ≤ (S.length : Int))) (tt2 (by omega) (by omega)), bif_true (le_big (by rw [List.length_append]; simp; omega))]
  cases hc0 : ((((remB c.1 5).toNat : Nat) : Int) == 0) with
  | true => exact noti fail ret key 9 _ _ _ id (fun _ => rfl) (by omega) rfl rfl (by rw [List.length_set]; omega) (List.take_length)
  | false =>
  cases hc1 : ((((remB c.1 5).toNat : Nat) : Int) == 1) with
  | true => exact noti fail ret key 9 (S.take (S.length - 1 - r)) S (S.length - 1 - r) (0 + ·) (fun _ => Nat.zero_add _) (by omega) rfl (by rw [List.length_take]; omega) (by rw [List.length_take]; omega) rfl
  | false =>
  cases hc2 : ((((remB c.1 5).toNat : Nat) : Int) == 2) with
  | true => exact noti fail ret key 9 _ _ _ id (fun _ => rfl) (by omega) rfl rfl (by rw [List.length_append]; simp; omega) (List.take_length)
  | false =>
  cases hc3 : ((((remB c.1 5).toNat : Nat) : Int) == 3) with
  | true => exact noti fail ret key _ _ _ _ id (fun _ => rfl) (by omega) (inR_iff.2 (by omega)) rfl (by omega) (List.take_length)
  | false =>
  cases hc4 : ((((remB c.1 5).toNat : Nat) : Int) == 4) with
  | true => exact noti fail ret _ 9 _ _ _ id (fun _ => rfl) (by rw [List.length_set]; omega) rfl rfl (by omega) (List.take_length)
  | false => exact noti fail ret key 9 _ _ _ id (fun _ => rfl) (by omega) rfl rfl (by omega) (List.take_length)⟩
end Go.AI
