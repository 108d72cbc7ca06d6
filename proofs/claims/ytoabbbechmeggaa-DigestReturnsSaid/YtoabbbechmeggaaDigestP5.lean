/- Hexadecimal texts: what the printed functions answer. -/
import Derived.Test.YtoabbbechmeggaaDigestP4
namespace Go.AI
open Go

def hexT : List UInt8 := [48, 49, 50, 51, 52, 53, 54, 55, 56, 57, 97, 98, 99, 100, 101, 102]
theorem hex_hi : ∀ i : Nat, i < 256 → (shrB (UInt8.ofNat i) 4).toNat < 16 ∧ hexT.getD (shrB (UInt8.ofNat i) 4).toNat 0 = hexD (UInt8.ofNat i / 16) ∧ hexD (shrB (UInt8.ofNat i) 4) = hexD (UInt8.ofNat i / 16) := by decide +kernel
theorem hex_lo : ∀ i : Nat, i < 256 → (andB (UInt8.ofNat i) 15).toNat < 16 ∧ hexT.getD (andB (UInt8.ofNat i) 15).toNat 0 = hexD (UInt8.ofNat i % 16) ∧ hexD (andB (UInt8.ofNat i) 15) = hexD (UInt8.ofNat i % 16) := by decide +kernel
def hexG (d : List UInt8) (i : Nat) : List UInt8 := [hexD (d.getD i 0 / 16), hexD (d.getD i 0 % 16)]
def hexTo (d : List UInt8) (i : Nat) : List UInt8 := (List.range i).flatMap (hexG d)
theorem hexTo_len (d : List UInt8) : ∀ i, (hexTo d i).length = 2 * i
  | 0 => rfl
  | i + 1 => by
    unfold hexTo
    rw [List.range_succ, List.flatMap_append, List.length_append]
    have := hexTo_len d i
    unfold hexTo at this
    rw [this]
    show 2 * i + 2 = _
    omega
theorem hexTo_succ (d : List UInt8) (i : Nat) : hexTo d (i + 1) = hexTo d i ++ hexG d i := by
  unfold hexTo
  rw [List.range_succ, List.flatMap_append]
  simp
theorem dhex_l1 {X : Type} (F : Nat) (fail : X) (ex : List UInt8 → Int → List UInt8 → X) (d : List UInt8) : ∀ (j m i : Nat), i + j = 32 → j ≤ m →
    dHex_l1F F fail ex (m + 1) d i (hexTo d i) = ex d (32 : Nat) (hexTo d 32)
  | 0, m, i, hi, _ => by
    have e : i = 32 := by omega
    subst e
    rw [dHex_l1F, dHex_l1]
    rw [bif_false (ff (by omega))]
  | j + 1, 0, i, _, hm => absurd hm (by omega)
  | j + 1, m + 1, i, hi, hm => by
    have ih := dhex_l1 F fail ex d j m (i + 1) (by omega) (by omega)
    obtain ⟨b, hb, eb⟩ := byte_ex (d.getD i 0)
    obtain ⟨h1, h2, _⟩ := hex_hi b hb
    obtain ⟨l1, l2, _⟩ := hex_lo b hb
    rw [← eb] at h1 h2 l1 l2
    have hl := hexTo_len d i
    rw [dHex_l1F, dHex_l1, Int.toNat_natCast]
    rw [bif_true (tt (by omega)), bif_true (tt2 (by omega) (by omega)), bif_true (tt2 (by omega) (by show _ < ((16 : Nat) : Int); omega)), bif_true (tt2 (by omega) (by show _ < ((16 : Nat) : Int); omega))]
    have e : ([(List.getD hexT (shrB (d.getD i 0) 4).toNat 0), (List.getD hexT (andB (d.getD i 0) 15).toNat 0)] : List UInt8) = hexG d i := by rw [h2, l2]; rfl
    unfold hexT at e
    rw [e, ← hexTo_succ, bif_true (le_big (by rw [hexTo_len]; omega)), addI_eq (by omega) (by omega)]
    exact ih
theorem dHex_plain (d : List UInt8) (_ : dHex_P d = true) : ∃ F, ∀ {X : Type} (fail : X) (ret : List UInt8 → X), dHex F d fail ret = ret (dHex_r d) := ⟨99, fun fail ret => by
  unfold dHex
  rw [bif_true (tt (by unfold big; omega))]
  exact dhex_l1 99 fail _ d 32 98 0 rfl (by omega)⟩
theorem digit_plain (n : UInt8) : ∃ F, ∀ {X : Type} (fail : X) (ret : UInt8 → X), digit F n fail ret = ret (digit_r n) := ⟨1, fun fail ret => by
  unfold digit digit_r
  by_cases h : n < 10
  · have h' : n.toNat < 10 := UInt8.lt_iff_toNat_lt.1 h
    rw [bif_true (tt (by omega)), if_pos h, addB_eq]
  · have h' : ¬ n.toNat < 10 := fun k => h (UInt8.lt_iff_toNat_lt.2 k)
    have hn := n.toNat_lt
    rw [bif_false (ff (by omega)), if_neg h, addB_eq, subB_eq]
    congr 1
    apply UInt8.toNat_inj.1
    rw [UInt8.toNat_sub, UInt8.toNat_add, UInt8.toNat_add]
    show (256 - 10 + (97 + n.toNat) % 256) % 256 = (87 + n.toNat) % 256
    omega⟩
theorem rhex_l1 {X : Type} (F : Nat) (fail : X) (ex : Int → List UInt8 → List UInt8 → X) (d : List UInt8) : ∀ (j m i : Nat), i + j = 32 → j ≤ m →
    rHex_l1F F fail ex (m + 1) i d (hexTo d i) = ex (32 : Nat) d (hexTo d 32)
  | 0, m, i, hi, _ => by
    have e : i = 32 := by omega
    subst e
    rw [rHex_l1F, rHex_l1]
    rw [bif_false (ff (by omega))]
  | j + 1, 0, i, _, hm => absurd hm (by omega)
  | j + 1, m + 1, i, hi, hm => by
    have ih := rhex_l1 F fail ex d j m (i + 1) (by omega) (by omega)
    obtain ⟨b, hb, eb⟩ := byte_ex (d.getD i 0)
    obtain ⟨_, _, h2⟩ := hex_hi b hb
    obtain ⟨_, _, l2⟩ := hex_lo b hb
    rw [← eb] at h2 l2
    rw [rHex_l1F, rHex_l1, Int.toNat_natCast]
    have e : ([(digit_r (shrB (d.getD i 0) 4)), (digit_r (andB (d.getD i 0) 15))] : List UInt8) = hexG d i := by
      show [hexD _, hexD _] = _
      rw [h2, l2]; rfl
    rw [e, ← hexTo_succ, bif_true (tt (by omega)), bif_true (tt2 (by omega) (by omega)), bif_true (tt2 (by omega) (by omega)), bif_true (le_big (by rw [hexTo_len]; omega)), addI_eq (by omega) (by omega)]
    exact ih
theorem rHex_plain (d : List UInt8) (_ : rHex_P d = true) : ∃ F, ∀ {X : Type} (fail : X) (ret : List UInt8 → X), rHex F d fail ret = ret (rHex_r d) := ⟨99, fun fail ret => by
  unfold rHex
  exact rhex_l1 99 fail _ d 32 98 0 rfl (by omega)⟩

theorem value_plain (c : UInt8) : ∃ F, ∀ {X : Type} (fail : X) (ret : UInt8 → Bool → X), value F c fail ret = ret (value_r0 c) (value_r1 c) := ⟨1, fun fail ret => by
  have hc := c.toNat_lt
  have e0 : (48 ≤ c) ↔ 48 ≤ c.toNat := UInt8.le_iff_toNat_le
  have e1 : (c ≤ 57) ↔ c.toNat ≤ 57 := UInt8.le_iff_toNat_le
  have e2 : (97 ≤ c) ↔ 97 ≤ c.toNat := UInt8.le_iff_toNat_le
  have e3 : (c ≤ 102) ↔ c.toNat ≤ 102 := UInt8.le_iff_toNat_le
  unfold value value_r0 value_r1 hexV
  by_cases h0 : 48 ≤ c.toNat
  · rw [bif_true (tt (by omega))]
    by_cases h1 : c.toNat ≤ 57
    · rw [bif_true (tt (by omega)), if_pos ⟨e0.2 h0, e1.2 h1⟩, subB_eq]; rfl
    · rw [bif_false (ff (by omega)), if_neg (fun k => h1 (e1.1 k.2))]
      by_cases h2 : 97 ≤ c.toNat
      · rw [bif_true (tt (by omega))]
        by_cases h3 : c.toNat ≤ 102
        · rw [bif_true (tt (by omega)), if_pos ⟨e2.2 h2, e3.2 h3⟩, subB_eq, addB_eq]
          show ret (c - 97 + 10) true = ret (c - 87) true
          congr 1
          apply UInt8.toNat_inj.1
          rw [UInt8.toNat_add, UInt8.toNat_sub, UInt8.toNat_sub]
          show ((256 - 97 + c.toNat) % 256 + 10) % 256 = (256 - 87 + c.toNat) % 256
          omega
        · rw [bif_false (ff (by omega)), if_neg (fun k => h3 (e3.1 k.2))]; rfl
      · rw [bif_false (ff (by omega)), if_neg (fun k => h2 (e2.1 k.1))]; rfl
  · rw [bif_false (ff (by omega)), if_neg (fun k => h0 (e0.1 k.1)), bif_false (ff (by omega)), if_neg (fun k => h0 (by have := e2.1 k.1; omega))]; rfl⟩

def hexN (c : UInt8) : UInt8 := (hexV c).getD 0
theorem hexN_lt : ∀ i : Nat, i < 256 → (hexN (UInt8.ofNat i)).toNat < 16 := by decide +kernel
theorem hexN_lt' (c : UInt8) : (hexN c).toNat < 16 := by
  obtain ⟨i, hi, rfl⟩ := byte_ex c
  exact hexN_lt i hi
/-- What is parsed behind i digits. -/
def parTo (s : List UInt8) : Nat → List UInt8
  | 0 => List.replicate 32 0
  | i + 1 => (parTo s i).set (i / 2) (orB (shlB ((parTo s i).getD (i / 2) 0) 4) (hexN (s.getD i 0)))
theorem parTo_len (s : List UInt8) : ∀ i, (parTo s i).length = 32
  | 0 => by simp [parTo]
  | i + 1 => by
    show ((parTo s i).set _ _).length = 32
    rw [List.length_set, parTo_len s i]
theorem nib_zero : ∀ i : Nat, i < 16 → orB (shlB 0 4) (UInt8.ofNat i) = UInt8.ofNat i := by decide +kernel
theorem nib_two : ∀ j : Nat, j < 16 → ∀ i : Nat, i < 16 → orB (shlB (UInt8.ofNat j) 4) (UInt8.ofNat i) = 16 * UInt8.ofNat j + UInt8.ofNat i := by decide +kernel
theorem nib_ex (c : UInt8) : ∃ i, i < 16 ∧ hexN c = UInt8.ofNat i := ⟨(hexN c).toNat, hexN_lt' c, by simp⟩
theorem parTo_get (s : List UInt8) : ∀ i j, i ≤ 64 → j < 32 → (parTo s i).getD j 0 = if 2 * j + 1 < i then 16 * hexN (s.getD (2 * j) 0) + hexN (s.getD (2 * j + 1) 0) else if 2 * j < i then hexN (s.getD (2 * j) 0) else 0
  | 0, j, _, h => by
    rw [if_neg (by omega), if_neg (by omega)]
    show (List.replicate 32 (0 : UInt8)).getD j 0 = 0
    simp only [List.getD_eq_getElem?_getD, List.getElem?_replicate]
    rw [if_pos h]; rfl
  | i + 1, j, hi, h => by
    have ih := parTo_get s i j (by omega) h
    show ((parTo s i).set (i / 2) _).getD j 0 = _
    by_cases e : i / 2 = j
    · rw [e, getD_set_same (by rw [parTo_len]; exact h), ih]
      by_cases o : i = 2 * j
      · subst o
        obtain ⟨x, hx, ex⟩ := nib_ex (s.getD (2 * j) 0)
        rw [if_neg (by omega), if_neg (by omega), if_neg (by omega), if_pos (by omega), ex, nib_zero x hx]
      · have o' : i = 2 * j + 1 := by omega
        subst o'
        obtain ⟨x, hx, ex⟩ := nib_ex (s.getD (2 * j) 0)
        obtain ⟨y, hy, ey⟩ := nib_ex (s.getD (2 * j + 1) 0)
        rw [if_neg (by omega), if_pos (by omega), if_pos (by omega), ex, ey, nib_two x hx y hy]
    · rw [getD_set_other e, ih]
      by_cases a : 2 * j + 1 < i
      · rw [if_pos a, if_pos (by omega)]
      · rw [if_neg a, if_neg (by omega), if_neg (by omega), if_neg (by omega)]
theorem parTo_all (s : List UInt8) : parTo s 64 = (List.range 32).map fun i => 16 * hexN (s.getD (2 * i) 0) + hexN (s.getD (2 * i + 1) 0) := by
  apply List.ext_getElem
  · rw [parTo_len]; simp
  · intro i h1 h2
    rw [parTo_len] at h1
    have := parTo_get s 64 i (by omega) h1
    rw [if_pos (by omega), getD_lt (by rw [parTo_len]; exact h1)] at this
    rw [this]; simp
theorem hex_small : ∀ i : Nat, i < 256 → (hexV (UInt8.ofNat i)).isSome = true → i < 128 := by decide +kernel
theorem nextPos_low (s : List UInt8) (i : Nat) (h : i < s.length) (hb : (s.getD i 0).toNat < 128) : nextPos s i = i + 1 := by
  have eg : (ByteArray.mk s.toArray).get! i = s.getD i 0 := by
    show s.toArray[i]! = _
    rw [getD_lt h, getElem!_pos s.toArray i (by simpa using h)]; simp
  unfold nextPos Utf8.decode
  simp only [Nat.add_zero, eg, if_pos hb]
/-- A text that is read, digit for digit, from the i-th on. -/
def parRes (s : List UInt8) : Bool := s.all fun c => (hexV c).isSome
theorem dp_l1 {X : Type} (F : Nat) (fail : X) (ret : List UInt8 → Int → X) (s z : List UInt8) (hs : s.length = 64) : ∀ (j m i : Nat), i + j = 64 → j ≤ m →
    dParse_l1F F fail (fun (_ : List UInt8) (s3 : Int) (s2 : List UInt8) (_ : List UInt8) (_ : List UInt8) (_ : Nat) => ret s2 s3) (fun (_ : List UInt8) (_ : Int) (_ : List UInt8) (out1 : List UInt8) (_ : List UInt8) (_ : Nat) => ret out1 (0 : Int)) (m + 1) s 0 z (parTo s i) s i = if (s.drop i).all (fun c => (hexV c).isSome) then ret (parTo s 64) 0 else ret (List.replicate 32 0) 4
  | 0, m, i, hi, _ => by
    have e : i = 64 := by omega
    subst e
    rw [dParse_l1F, dParse_l1]
    rw [bif_false (ff (by omega)), List.drop_eq_nil_of_le (by omega)]
    rfl
  | j + 1, 0, i, _, hm => absurd hm (by omega)
  | j + 1, m + 1, i, hi, hm => by
    have ih := dp_l1 F fail ret s z hs j m (i + 1) (by omega) (by omega)
    have hd : s.drop i = s.getD i 0 :: s.drop (i + 1) := by
      rw [List.drop_eq_getElem_cons (by omega), getD_lt (by omega)]
    have q : quoI (i : Int) 2 = ((i / 2 : Nat) : Int) := by rw [quoI_eq (by omega) (by omega) (by omega)]; omega
    rw [dParse_l1F, dParse_l1, q, Int.toNat_natCast, hd, List.all_cons]
    rw [bif_true (tt (by omega)), bif_true (tt2 (by omega) (by omega))]
    cases hv : (hexV (s.getD i 0)).isSome with
    | false =>
      rw [show value_r1 (s.getD i 0) = false from hv, Bool.false_and, if_neg (by simp)]
      rfl
    | true =>
      have hb : (s.getD i 0).toNat < 128 := by
        obtain ⟨k, hk, ek⟩ := byte_ex (s.getD i 0)
        rw [ek] at hv ⊢
        have := hex_small k hk hv
        rw [UInt8.toNat_ofNat']; omega
      rw [show value_r1 (s.getD i 0) = true from hv, Bool.true_and]
      rw [bif_false (c := !true) rfl, bif_true (tt2 (by omega) (by omega)), bif_true (tt2 (by omega) (by omega)), nextPos_low s i (by omega) hb]
      exact ih
theorem parV_eq (s : List UInt8) (hs : s.length = 64) : parV s = if s.all (fun c => (hexV c).isSome) then parTo s 64 else List.replicate 32 0 := by
  unfold parV parG
  rw [decide_eq_true hs, Bool.true_and, parTo_all]
  rfl
theorem parE_eq (s : List UInt8) (hs : s.length = 64) : parE s = if s.all (fun c => (hexV c).isSome) then 0 else 4 := by
  unfold parE parG
  rw [decide_eq_true hs, Bool.true_and]
theorem par_short (s : List UInt8) (hs : s.length ≠ 64) : parV s = List.replicate 32 0 ∧ parE s = 4 := by
  unfold parV parE parG
  rw [decide_eq_false hs, Bool.false_and]
  exact ⟨rfl, rfl⟩
theorem dParse_plain (s : List UInt8) (_ : dParse_P s = true) : ∃ F, ∀ {X : Type} (fail : X) (ret : List UInt8 → Int → X), dParse F s fail ret = ret (dParse_r0 s) (dParse_r1 s) := ⟨99, fun fail ret => by
  unfold dParse dParse_r0 dParse_r1
  by_cases hs : s.length = 64
  · rw [bif_false (bne_f (by omega)), parV_eq s hs, parE_eq s hs]
    refine (dp_l1 99 fail ret s _ hs 64 98 0 rfl (by omega)).trans ?_
    rw [List.drop_zero]
    by_cases c : s.all (fun c => (hexV c).isSome) = true
    · rw [if_pos c, if_pos c, if_pos c]
    · rw [if_neg c, if_neg c, if_neg c]
  · obtain ⟨h1, h2⟩ := par_short s hs
    rw [bif_true (bne_t (by omega)), h1, h2]⟩

/-- The reference's search for a digit. -/
def fnd (c : UInt8) : Nat → Int
  | 0 => -1
  | k + 1 => if (hexD (UInt8.ofNat k)).toNat = c.toNat then (k : Int) else fnd c k
theorem fnd_all : ∀ i : Nat, i < 256 → fnd (UInt8.ofNat i) 16 = if (hexV (UInt8.ofNat i)).isSome then ((hexN (UInt8.ofNat i)).toNat : Int) else -1 := by decide +kernel
theorem rp_l2 {X : Type} (F : Nat) (fail : X) (ex : List UInt8 → Int → Int → Int → Int → List UInt8 → List UInt8 → X) (s : List UInt8) (s3 : Int) (i : Nat) (s2 out : List UInt8) (hs : s.length = 64) (hi : i < 64) : ∀ (j m k : Nat), k + j = 16 → j ≤ m →
    rParse_l2F F fail ex (m + 1) s s3 i (fnd (s.getD i 0) k) k s2 out = ex s s3 i (fnd (s.getD i 0) 16) (16 : Nat) s2 out
  | 0, m, k, hk, _ => by
    have e : k = 16 := by omega
    subst e
    rw [rParse_l2F, rParse_l2]
    rw [bif_false (ff (by omega))]
  | j + 1, 0, k, _, hm => absurd hm (by omega)
  | j + 1, m + 1, k, hk, hm => by
    have ih := rp_l2 F fail ex s s3 i s2 out hs hi j m (k + 1) (by omega) (by omega)
    have ec : cvIB (k : Int) = UInt8.ofNat k := by rw [cvIB_eq]; congr 1; omega
    rw [rParse_l2F, rParse_l2, ec, Int.toNat_natCast, addI_eq (by omega) (by omega)]
    rw [bif_true (tt (by omega)), bif_true (tt2 (by omega) (by omega))]
    by_cases c : (hexD (UInt8.ofNat k)).toNat = (s.getD i 0).toNat
    · rw [bif_true (beq_t (by show ((hexD (UInt8.ofNat k)).toNat : Int) = _; omega))]
      rw [show fnd (s.getD i 0) (k + 1) = k from if_pos c] at ih
      exact ih
    · rw [bif_false (beq_f (by show ((hexD (UInt8.ofNat k)).toNat : Int) ≠ _; omega))]
      rw [show fnd (s.getD i 0) (k + 1) = fnd (s.getD i 0) k from if_neg c] at ih
      exact ih
theorem rp_l1 {X : Type} (F : Nat) (hF : 20 ≤ F) (fail : X) (ret : List UInt8 → Int → X) (s z : List UInt8) (hs : s.length = 64) : ∀ (j m i : Nat), i + j = 64 → j ≤ m →
    rParse_l1F F fail (fun (_ : List UInt8) (s3 : Int) (_ : Int) (s2 : List UInt8) (_ : List UInt8) => ret s2 s3) (fun (_ : List UInt8) (_ : Int) (_ : Int) (_ : List UInt8) (out1 : List UInt8) => ret out1 (0 : Int)) (m + 1) s 0 i z (parTo s i) = if (s.drop i).all (fun c => (hexV c).isSome) then ret (parTo s 64) 0 else ret (List.replicate 32 0) 4
  | 0, m, i, hi, _ => by
    have e : i = 64 := by omega
    subst e
    rw [rParse_l1F, rParse_l1]
    rw [bif_false (ff (by omega)), List.drop_eq_nil_of_le (by omega)]
    rfl
  | j + 1, 0, i, _, hm => absurd hm (by omega)
  | j + 1, m + 1, i, hi, hm => by
    have ih := rp_l1 F hF fail ret s z hs j m (i + 1) (by omega) (by omega)
    have hd : s.drop i = s.getD i 0 :: s.drop (i + 1) := by
      rw [List.drop_eq_getElem_cons (by omega), getD_lt (by omega)]
    have q : quoI (i : Int) 2 = ((i / 2 : Nat) : Int) := by rw [quoI_eq (by omega) (by omega) (by omega)]; omega
    obtain ⟨f, rfl⟩ : ∃ f, F = f + 17 := ⟨F - 17, by omega⟩
    rw [rParse_l1F, rParse_l1, hd, List.all_cons]
    rw [bif_true (tt (by omega))]
    refine (rp_l2 (f + 17) fail _ s 0 i z _ hs (by omega) 16 (f + 16) 0 rfl (by omega)).trans ?_
    obtain ⟨k, hk, ek⟩ := byte_ex (s.getD i 0)
    have hf := fnd_all k hk
    rw [← ek] at hf
    have hl := hexN_lt' (s.getD i 0)
    rw [q, Int.toNat_natCast, hf]
    cases hv : (hexV (s.getD i 0)).isSome with
    | false =>
      rw [if_neg (by simp), Bool.false_and, if_neg (by simp)]
      rw [bif_true (tt (by omega))]
    | true =>
      rw [if_pos rfl, Bool.true_and]
      rw [bif_false (ff (by omega)), bif_true (tt2 (by omega) (by omega)), bif_true (tt2 (by omega) (by omega)), addI_eq (by omega) (by omega), show cvIB ((hexN (s.getD i 0)).toNat : Int) = hexN (s.getD i 0) by rw [cvIB_eq]; apply UInt8.toNat_inj.1; rw [UInt8.toNat_ofNat']; omega]
      exact ih
theorem rParse_plain (s : List UInt8) (_ : rParse_P s = true) : ∃ F, ∀ {X : Type} (fail : X) (ret : List UInt8 → Int → X), rParse F s fail ret = ret (rParse_r0 s) (rParse_r1 s) := ⟨99, fun fail ret => by
  unfold rParse rParse_r0 rParse_r1
  by_cases hs : s.length = 64
  · rw [bif_false (bne_f (by omega)), parV_eq s hs, parE_eq s hs]
    refine (rp_l1 99 (by omega) fail ret s _ hs 64 98 0 rfl (by omega)).trans ?_
    rw [List.drop_zero]
    by_cases c : s.all (fun c => (hexV c).isSome) = true
    · rw [if_pos c, if_pos c, if_pos c]
    · rw [if_neg c, if_neg c, if_neg c]
  · obtain ⟨h1, h2⟩ := par_short s hs
    rw [bif_true (bne_t (by omega)), h1, h2]⟩
theorem rSame_plain (a b : HH) : ∃ F, ∀ {X : Type} (fail : X) (ret : Bool → X), rSame F a b fail ret = ret (rSame_r a b) := ⟨1, fun fail ret => by
  unfold rSame rSame_r
  rw [beqT_u32]
  by_cases h1 : a.1 = b.1
  · rw [bif_true (tt h1)]
    by_cases h2 : a.2.2.1 = b.2.2.1
    · rw [bif_true (beq_t h2)]
      congr 1
      by_cases h3 : a.2.1 = b.2.1
      · rw [decide_eq_true ⟨h1, h3, h2⟩, beq_iff_eq.2 h3]
      · rw [decide_eq_false (fun k => h3 k.2.1)]; exact beq_eq_false_iff_ne.2 h3
    · rw [bif_false (beq_f h2), decide_eq_false (fun k => h2 k.2.2)]
  · rw [bif_false (ff h1), decide_eq_false (fun k => h1 k.1)]⟩
end Go.AI
