/- The laws of the chapter on plain values. -/
import Derived.Test.YtadpmbipdafjiaaWireG3
import Derived.Test.YtadpmbipdafjiaaWireP2
namespace Go.AI
open Go

theorem short_all {l : List (List UInt8)} (h : law02_short_r l = true) : ∀ b ∈ l, b.length ≤ 400 := by
  intro b hb
  simpa using List.all_eq_true.1 h b hb

def WirePuts_P (_ : List UInt8) (n : Int) : Bool := decide (-9223372036854775808 ≤ n ∧ n < 9223372036854775808)
def WirePuts_r (_ : List UInt8) (_ : Int) : Bool := true
theorem WirePuts_plain (dst : List UInt8) (n : Int) (h : WirePuts_P dst n = true) : ∃ F, ∀ {X : Type} (fail : X) (ret : Bool → X), WirePuts F dst n fail ret = ret (WirePuts_r dst n) := ⟨0, fun fail ret => by
  have hn := of_decide_eq_true h
  have e1 : law02_short_P [dst] = true := tt (by simp)
  cases hs : law02_short_r [dst] with
  | false => simp [WirePuts, e1, hs, law02_awake_r, WirePuts_r]
  | true =>
    have hd := short_all hs dst (by simp)
    have e2 : wire_PutInt_P dst n = true := tt (by omega)
    have e3 : ref02_PutInt_P dst n = true := tt (by omega)
    simp [WirePuts, e1, hs, e2, e3, law02_awake_r, WirePuts_r, bytes_Equal_r, wire_PutInt_r, ref02_PutInt_r, wire_Size_r, ref02_Size_r]⟩

def WireReads_P (_ : List UInt8) : Bool := true
def WireReads_r (_ : List UInt8) : Bool := true
theorem WireReads_plain (src : List UInt8) (_ : WireReads_P src = true) : ∃ F, ∀ {X : Type} (fail : X) (ret : Bool → X), WireReads F src fail ret = ret (WireReads_r src) := ⟨0, fun fail ret => by
  have e1 : law02_short_P [src] = true := tt (by simp)
  cases hs : law02_short_r [src] with
  | false => simp [WireReads, e1, hs, law02_awake_r, WireReads_r]
  | true =>
    have hd := short_all hs src (by simp)
    have e2 : wire_Int_P src = true := tt (by omega)
    have e3 : ref02_Int_P src = true := tt (by omega)
    simp [WireReads, e1, hs, e2, e3, law02_awake_r, WireReads_r, bytes_Equal_r, wire_Int_r0, wire_Int_r1, wire_Int_r2, ref02_Int_r0, ref02_Int_r1, ref02_Int_r2]⟩

def WireStrings_P (_ _ _ : List UInt8) : Bool := true
def WireStrings_r (_ _ _ : List UInt8) : Bool := true
theorem WireStrings_plain (dst b src : List UInt8) (_ : WireStrings_P dst b src = true) : ∃ F, ∀ {X : Type} (fail : X) (ret : Bool → X), WireStrings F dst b src fail ret = ret (WireStrings_r dst b src) := ⟨0, fun fail ret => by
  have e1 : law02_short_P [dst, b, src] = true := tt (by simp)
  cases hs : law02_short_r [dst, b, src] with
  | false => simp [WireStrings, e1, hs, law02_awake_r, WireStrings_r]
  | true =>
    have hd := short_all hs dst (by simp)
    have hb := short_all hs b (by simp)
    have hc := short_all hs src (by simp)
    have e2 : wire_PutBytes_P dst b = true := tt (by omega)
    have e3 : ref02_PutBytes_P dst b = true := tt (by omega)
    have e4 : wire_PutText_P dst b = true := tt (by omega)
    have e5 : ref02_PutText_P dst b = true := tt (by omega)
    have e6 : wire_Bytes_P src = true := tt (by omega)
    have e7 : ref02_Bytes_P src = true := tt (by omega)
    have e8 : wire_Text_P src = true := tt (by omega)
    simp [WireStrings, e1, hs, e2, e3, e4, e5, e6, e7, e8, law02_awake_r, WireStrings_r, bytes_Equal_r, wire_PutBytes_r, ref02_PutBytes_r, wire_PutText_r, ref02_PutText_r, wire_Bytes_r0, wire_Bytes_r1, wire_Bytes_r2, ref02_Bytes_r0,
      ref02_Bytes_r1, ref02_Bytes_r2, wire_Text_r0, wire_Text_r1, wire_Text_r2]⟩

def WireLists_P (_ : List UInt8) (l : List Int) (_ : List UInt8) : Bool := l.all fun n => decide (-9223372036854775808 ≤ n ∧ n < 9223372036854775808)
def WireLists_r (_ : List UInt8) (_ : List Int) (_ : List UInt8) : Bool := true
theorem WireLists_plain (dst : List UInt8) (l : List Int) (src : List UInt8) (h : WireLists_P dst l src = true) : ∃ F, ∀ {X : Type} (fail : X) (ret : Bool → X), WireLists F dst l src fail ret = ret (WireLists_r dst l src) := ⟨0, fun fail ret => by
  have e1 : law02_short_P [dst, src] = true := tt (by simp)
  cases hs : law02_short_r [dst, src] with
  | false => simp [WireLists, e1, hs, law02_awake_r, WireLists_r]
  | true =>
    have hd := short_all hs dst (by simp)
    have hc := short_all hs src (by simp)
    by_cases hl : (l.length : Int) > 60
    · simp [WireLists, e1, hs, hl, law02_awake_r, WireLists_r]
    · have hl' : l.length ≤ 60 := by omega
      have e2 : wire_Ints_P src = true := tt (by omega)
      have e3 : ref02_Ints_P src = true := tt (by omega)
      have e4 : wire_PutInts_P dst l = true := by
        show (decide _ && _) = true
        rw [Bool.and_eq_true]
        exact ⟨tt (by omega), h⟩
      have e5 : ref02_PutInts_P dst l = true := e4
      have hr : (readList src).1.length ≤ 65536 := by
        unfold readList
        simp only
        split
        · simp
        · have h1 := (readInts_len (readLen src).1.toNat (readLen src).2.1 []).2
          have h2 := readLen_small src (by omega)
          simp at h1
          omega
      have e6 : equal_int_P (wire_Ints_r0 src) (ref02_Ints_r0 src) = true := tt ⟨by show (readList src).1.length ≤ _; omega, by show (readList src).1.length ≤ _; omega⟩
      rw [show ref02_Ints_r0 src = wire_Ints_r0 src from rfl] at e6
      simp only [WireLists, e1, hs, e2, e3, e4, e5, ff hl, law02_awake_r, WireLists_r, show ref02_Ints_r0 src = wire_Ints_r0 src from rfl, e6]
      simp [bytes_Equal_r, equal_int_r, wire_PutInts_r, ref02_PutInts_r, wire_Ints_r1, wire_Ints_r2, ref02_Ints_r1, ref02_Ints_r2]⟩

/-- Of two numbers with the same digits above, the lower ones' digits come first. -/
theorem lowB_cmp (r s : List UInt8) : ∀ (k m n : Nat), m / 2 ^ (8 * k) = n / 2 ^ (8 * k) → m < n → cmpB (lowB m k ++ r) (lowB n k ++ s) = -1 ∧ cmpB (lowB n k ++ s) (lowB m k ++ r) = 1
  | 0, m, n, h, hl => by simp at h; omega
  | k + 1, m, n, h, hl => by
    have e : 2 ^ (8 * (k + 1)) = 2 ^ (8 * k) * 256 := by rw [show 8 * (k + 1) = 8 * k + 8 from by omega, Nat.pow_add]
    rw [e, ← Nat.div_div_eq_div_mul, ← Nat.div_div_eq_div_mul] at h
    have hle : m / 2 ^ (8 * k) ≤ n / 2 ^ (8 * k) := Nat.div_le_div_right (by omega)
    simp only [lowB, List.cons_append, cmpB]
    by_cases hq : m / 2 ^ (8 * k) = n / 2 ^ (8 * k)
    · rw [hq]
      have h1 : ¬ UInt8.ofNat (n / 2 ^ (8 * k) % 256) < UInt8.ofNat (n / 2 ^ (8 * k) % 256) := by
        rw [UInt8.lt_iff_toNat_lt]; omega
      rw [if_neg h1, if_neg h1, if_neg h1, if_neg h1]
      exact lowB_cmp r s k m n hq hl
    · generalize m / 2 ^ (8 * k) = p at *
      generalize n / 2 ^ (8 * k) = q at *
      have h1 : UInt8.ofNat (p % 256) < UInt8.ofNat (q % 256) := by
        rw [UInt8.lt_iff_toNat_lt, UInt8.toNat_ofNat', UInt8.toNat_ofNat']
        omega
      have h2 : ¬ UInt8.ofNat (q % 256) < UInt8.ofNat (p % 256) := by
        rw [UInt8.lt_iff_toNat_lt] at *; omega
      rw [if_pos h1, if_neg h2, if_pos h1]
      exact ⟨rfl, rfl⟩
theorem fur_mono {a b : Int} (h : a ≤ b) : fur a ≤ fur b := by
  unfold fur
  split <;> split <;> omega
theorem encN_cmp (r s : List UInt8) {a b : Int} (h0 : 0 ≤ a) (hab : a < b) (h1 : b ≤ 9007199254740991) : cmpB (encN a ++ r) (encN b ++ s) = -1 ∧ cmpB (encN b ++ s) (encN a ++ r) = 1 := by
  obtain ⟨m, j, rfl, hj, hj7, hm, em⟩ := fur_nat a h0 (by omega)
  obtain ⟨n, k, rfl, hk, hk7, hn, en⟩ := fur_nat b (by omega) h1
  rw [em, en]
  have hmn : m < n := by omega
  have hjk : j ≤ k := by
    have := fur_mono (a := m) (b := n) (by omega)
    rw [hj, hk] at this
    omega
  have t1 := top_lt m j hm hj7
  have t2 := top_lt n k hn hk7
  simp only [List.cons_append, cmpB]
  rcases Nat.lt_or_ge j k with hlt | hge
  · have h1 : UInt8.ofNat (256 - 2 ^ (8 - j) + m / 2 ^ (8 * j)) < UInt8.ofNat (256 - 2 ^ (8 - k) + n / 2 ^ (8 * k)) := by
      rw [UInt8.lt_iff_toNat_lt, UInt8.toNat_ofNat', UInt8.toNat_ofNat']
      have e1 : 2 ^ (8 - j) = 2 * 2 ^ (7 - j) := by rw [show 8 - j = (7 - j) + 1 from by omega, Nat.pow_succ]; omega
      have e2 : 2 ^ (8 - k) ≤ 2 ^ (7 - j) := Nat.pow_le_pow_right (by omega) (by omega)
      have e3 : 2 ^ (8 - k) = 2 * 2 ^ (7 - k) := by rw [show 8 - k = (7 - k) + 1 from by omega, Nat.pow_succ]; omega
      have e4 := pow_le_128 j
      generalize m / 2 ^ (8 * j) = x at *
      generalize n / 2 ^ (8 * k) = y at *
      generalize 2 ^ (8 - j) = u at *
      generalize 2 ^ (8 - k) = v at *
      generalize 2 ^ (7 - j) = u' at *
      generalize 2 ^ (7 - k) = v' at *
      omega
    have h2 : ¬ UInt8.ofNat (256 - 2 ^ (8 - k) + n / 2 ^ (8 * k)) < UInt8.ofNat (256 - 2 ^ (8 - j) + m / 2 ^ (8 * j)) := by
      rw [UInt8.lt_iff_toNat_lt] at *; omega
    rw [if_pos h1, if_neg h2, if_pos h1]
    exact ⟨rfl, rfl⟩
  · have hjk : j = k := by omega
    subst hjk
    have hle : m / 2 ^ (8 * j) ≤ n / 2 ^ (8 * j) := Nat.div_le_div_right (by omega)
    by_cases hq : m / 2 ^ (8 * j) = n / 2 ^ (8 * j)
    · rw [hq]
      have h1 : ¬ UInt8.ofNat (256 - 2 ^ (8 - j) + n / 2 ^ (8 * j)) < UInt8.ofNat (256 - 2 ^ (8 - j) + n / 2 ^ (8 * j)) := by
        rw [UInt8.lt_iff_toNat_lt]; omega
      rw [if_neg h1, if_neg h1, if_neg h1, if_neg h1]
      exact lowB_cmp r s j m n hq hmn
    · have h1 : UInt8.ofNat (256 - 2 ^ (8 - j) + m / 2 ^ (8 * j)) < UInt8.ofNat (256 - 2 ^ (8 - j) + n / 2 ^ (8 * j)) := by
        rw [UInt8.lt_iff_toNat_lt, UInt8.toNat_ofNat', UInt8.toNat_ofNat']
        have e1 : 2 ^ (8 - j) = 2 * 2 ^ (7 - j) := by rw [show 8 - j = (7 - j) + 1 from by omega, Nat.pow_succ]; omega
        have e4 := pow_le_128 j
        generalize m / 2 ^ (8 * j) = x at *
        generalize n / 2 ^ (8 * j) = y at *
        generalize 2 ^ (8 - j) = u at *
        generalize 2 ^ (7 - j) = u' at *
        omega
      have h2 : ¬ UInt8.ofNat (256 - 2 ^ (8 - j) + n / 2 ^ (8 * j)) < UInt8.ofNat (256 - 2 ^ (8 - j) + m / 2 ^ (8 * j)) := by
        rw [UInt8.lt_iff_toNat_lt] at *; omega
      rw [if_pos h1, if_neg h2, if_pos h1]
      exact ⟨rfl, rfl⟩

def WireOrders_P (a b : Int) (_ : List (List UInt8)) : Bool := decide (-9223372036854775808 ≤ a ∧ a < 9223372036854775808 ∧ -9223372036854775808 ≤ b ∧ b < 9223372036854775808)
def WireOrders_r (_ _ : Int) (_ : List (List UInt8)) : Bool := true
theorem WireOrders_plain (a b : Int) (rest_ : List (List UInt8)) (h : WireOrders_P a b rest_ = true) : ∃ F, ∀ {X : Type} (fail : X) (ret : Bool → X), WireOrders F a b rest_ fail ret = ret (WireOrders_r a b rest_) := ⟨0, fun fail ret => by
  have hn := of_decide_eq_true h
  generalize hx : List.getD rest_ 0 ([] : List UInt8) = x
  generalize hy : List.getD rest_ 1 ([] : List UInt8) = y
  have e1 : law02_short_P [x, y] = true := tt (by simp)
  unfold WireOrders
  rw [hx, hy]
  by_cases ha : a < 0
  · simp [ha, law02_awake_r, WireOrders_r]
  by_cases hb : b < 0
  · simp [hb, law02_awake_r, WireOrders_r]
  by_cases ha' : a > 9007199254740991
  · simp [ha', law02_awake_r, WireOrders_r]
  by_cases hb' : b > 9007199254740991
  · simp [hb', law02_awake_r, WireOrders_r]
  by_cases hab : a = b
  · simp [hab, law02_awake_r, WireOrders_r]
  rw [bif_false (ff ha), bif_false (ff hb), bif_false (ff ha'), bif_false (ff hb'), bif_false (beq_f hab), bif_true e1]
  cases hs : law02_short_r [x, y] with
  | false => simp [law02_awake_r, WireOrders_r]
  | true =>
    have hxl := short_all hs x (by simp)
    have hyl := short_all hs y (by simp)
    have e2 : wire_PutInt_P [] a = true := tt ⟨by simp, hn.1, hn.2.1⟩
    have e3 : wire_PutInt_P [] b = true := tt ⟨by simp, hn.2.2⟩
    have ea : wire_PutInt_r [] a = encN a := by show encN (numOf a) = _; rw [numOf_id (by omega) (by omega)]
    have eb : wire_PutInt_r [] b = encN b := by show encN (numOf b) = _; rw [numOf_id (by omega) (by omega)]
    have la := encN_length a
    have lb := encN_length b
    rw [bif_false (c := !true) rfl, bif_true e2, ea, bif_true (le_big (by simp only [List.length_append]; omega)), bif_true e3, eb, bif_true (le_big (by simp only [List.length_append]; omega))]
    have ia : numOf a = a := numOf_id (by omega) (by omega)
    have ib : numOf b = b := numOf_id (by omega) (by omega)
    rcases Int.lt_or_gt_of_ne hab with hlt | hgt
    · have hc := (encN_cmp x y (a := a) (b := b) (by omega) hlt (by omega)).1
      have hf := fur_mono (a := a) (b := b) (by omega)
      have hz : decide (wire_Size_r a ≤ wire_Size_r b) = true := tt (by show fur (numOf a) + 1 ≤ fur (numOf b) + 1; rw [ia, ib]; omega)
      rw [show bytes_Compare_r (encN a ++ x) (encN b ++ y) = -1 from hc, tt hlt, bif_true (by decide), bif_true hz]
      rfl
    · have hc := (encN_cmp y x (a := b) (b := a) (by omega) hgt (by omega)).2
      rw [show bytes_Compare_r (encN a ++ x) (encN b ++ y) = 1 from hc, ff (by omega : ¬ a < b), bif_true (by decide), tt (by omega : a > b)]
      by_cases hz : wire_Size_r a ≤ wire_Size_r b
      · rw [bif_true (tt hz)]; rfl
      · rw [bif_false (ff hz), bif_true rfl]; rfl⟩
end Go.AI
