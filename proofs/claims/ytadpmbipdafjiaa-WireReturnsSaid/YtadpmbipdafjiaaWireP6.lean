/- The laws about reading back, about canonical encodings and about torn ones. -/
import Derived.Test.YtadpmbipdafjiaaWireP5
namespace Go.AI
open Go

theorem cvHI_eq {a : Int} (h1 : 0 ≤ a) (h2 : a < 65536) : cvHI a = a := wrap_i64_id (n := a) (by omega) (by omega)
theorem encInts_length (l : List Int) : (encInts l).length ≤ 8 + 8 * l.length := by
  have h1 := encN_length (numOf l.length)
  have h2 := flat_length l
  unfold encInts
  rw [List.length_append]; omega
theorem encInts_pos (l : List Int) : 0 < (encInts l).length := by
  unfold encInts encN
  simp

def WireReturns_P (l : List Int) (_ _ : List UInt8) : Bool := l.all fun n => decide (-9223372036854775808 ≤ n ∧ n < 9223372036854775808)
def WireReturns_r (_ : List Int) (_ _ : List UInt8) : Bool := true
theorem WireReturns_plain (l : List Int) (b rest_ : List UInt8) (_ : WireReturns_P l b rest_ = true) : ∃ F, ∀ {X : Type} (fail : X) (ret : Bool → X), WireReturns F l b rest_ fail ret = ret (WireReturns_r l b rest_) := ⟨0, fun fail ret => by
  have e1 : law02_short_P [b, rest_] = true := tt (by simp)
  unfold WireReturns
  rw [bif_true e1]
  cases hs : law02_short_r [b, rest_] with
  | false => simp [law02_awake_r, WireReturns_r]
  | true =>
    have hb := short_all hs b (by simp)
    have hr := short_all hs rest_ (by simp)
    rw [bif_false (c := !true) rfl]
    by_cases hl : (l.length : Int) > 60
    · rw [bif_true (tt hl)]; rfl
    rw [bif_false (ff hl), bif_true (c := law02_numbers_P l) (tt (by omega))]
    have hko := numbers_ok l
    have hkl := numbers_len l
    generalize law02_numbers_r l = k at *
    have l1 := encN_length (numOf k.length)
    have l2 := encN_length (numOf b.length)
    have l3 := encInts_length k
    rw [bif_true (c := wire_PutInt_P [] k.length) (tt ⟨by simp, by omega, by omega⟩), show wire_PutInt_r [] (k.length : Int) = encN (numOf k.length) from rfl]
    rw [bif_true (c := wire_PutBytes_P _ b) (tt (by omega)), show wire_PutBytes_r (encN (numOf k.length)) b = encN (numOf k.length) ++ encN (numOf b.length) ++ b from rfl]
    rw [bif_true (c := wire_PutText_P _ b) (tt (by simp only [List.length_append]; omega)), show wire_PutText_r (encN (numOf k.length) ++ encN (numOf b.length) ++ b) b = encN (numOf k.length) ++ encN (numOf b.length) ++ b ++ encN (numOf b.length) ++ b from rfl]
    rw [bif_true (c := wire_PutInts_P _ k) (by
      show (decide _ && _) = true
      rw [Bool.and_eq_true]
      exact ⟨tt (by simp only [List.length_append]; omega), List.all_eq_true.2 fun n hn => tt (by have := hko n hn; omega)⟩),
      show wire_PutInts_r (encN (numOf k.length) ++ encN (numOf b.length) ++ b ++ encN (numOf b.length) ++ b) k = encN (numOf k.length) ++ encN (numOf b.length) ++ b ++ encN (numOf b.length) ++ b ++ encInts k from rfl]
    have hall : encN (numOf k.length) ++ encN (numOf b.length) ++ b ++ encN (numOf b.length) ++ b ++ encInts k ++ rest_ = encN (numOf k.length) ++ (encN (numOf b.length) ++ b ++ (encN (numOf b.length) ++ b ++ (encInts k ++ rest_))) := by simp only [List.append_assoc]
    rw [hall]
    generalize h4 : encN (numOf b.length) ++ b ++ (encInts k ++ rest_) = a3
    generalize h5 : encN (numOf b.length) ++ b ++ a3 = a2
    have n3 : a3.length ≤ 2000 := by rw [← h4]; simp only [List.length_append]; omega
    have n2 : a2.length ≤ 3000 := by rw [← h5]; simp only [List.length_append]; omega
    have i1 : readN (encN (numOf k.length) ++ a2) = ((k.length : Int), a2, 0) := by rw [numOf_id (by omega) (by omega)]; exact readN_enc (by omega) (by omega) _
    have i2 : readBytes a2 = (b, a3, 0) := by rw [← h5]; exact readBytes_enc (by omega) _
    have i3 : readBytes a3 = (b, encInts k ++ rest_, 0) := by rw [← h4]; exact readBytes_enc (by omega) _
    have i4 : readList (encInts k ++ rest_) = (k, rest_, 0) := readList_enc _ (by omega) hko
    have j1 : wire_Int_r0 (encN (numOf k.length) ++ a2) = (k.length : Int) := by show (readN _).1 = _; rw [i1]
    have j2 : wire_Int_r1 (encN (numOf k.length) ++ a2) = a2 := by show (readN _).2.1 = _; rw [i1]
    have j3 : wire_Int_r2 (encN (numOf k.length) ++ a2) = 0 := by show (readN _).2.2 = _; rw [i1]
    have j4 : wire_Bytes_r0 a2 = b := by show (readBytes _).1 = _; rw [i2]
    have j5 : wire_Bytes_r1 a2 = a3 := by show (readBytes _).2.1 = _; rw [i2]
    have j6 : wire_Bytes_r2 a2 = 0 := by show (readBytes _).2.2 = _; rw [i2]
    have j7 : wire_Text_r0 a3 = b := by show (readBytes _).1 = _; rw [i3]
    have j8 : wire_Text_r1 a3 = encInts k ++ rest_ := by show (readBytes _).2.1 = _; rw [i3]
    have j9 : wire_Text_r2 a3 = 0 := by show (readBytes _).2.2 = _; rw [i3]
    have j10 : wire_Ints_r0 (encInts k ++ rest_) = k := by show (readList _).1 = _; rw [i4]
    have j11 : wire_Ints_r1 (encInts k ++ rest_) = rest_ := by show (readList _).2.1 = _; rw [i4]
    have j12 : wire_Ints_r2 (encInts k ++ rest_) = 0 := by show (readList _).2.2 = _; rw [i4]
    simp only [j1, j2, j3, j4, j5, j6, j7, j8, j9, j10, j11, j12]
    rw [bif_true (le_big (by simp only [List.length_append]; omega)), bif_true (c := wire_Int_P _) (tt (by simp only [List.length_append]; omega)), bif_true (c := wire_Bytes_P _) (tt (by omega)), bif_true (c := wire_Text_P _) (tt (by omega)),
      bif_true (c := wire_Ints_P _) (tt (by simp only [List.length_append]; omega)), bif_true (c := (addI (addI (addI 0 0) 0) 0 == 0)) (by decide), bif_true (beq_t rfl), bif_true (c := bytes_Equal_r b b) (by simp [bytes_Equal_r]),
      bif_true (by simp), bif_true (c := equal_int_P k k) (tt ⟨by omega, by omega⟩), bif_true (c := equal_int_r k k) (by simp [equal_int_r]), bif_true (c := bytes_Equal_r rest_ rest_) (by simp [bytes_Equal_r])]
    rfl⟩

def WireCanonical_P (_ : List UInt8) : Bool := true
def WireCanonical_r (_ : List UInt8) : Bool := true
theorem WireCanonical_plain (src : List UInt8) (_ : WireCanonical_P src = true) : ∃ F, ∀ {X : Type} (fail : X) (ret : Bool → X), WireCanonical F src fail ret = ret (WireCanonical_r src) := ⟨0, fun fail ret => by
  have e1 : law02_short_P [src] = true := tt (by simp)
  cases hs : law02_short_r [src] with
  | false => simp [WireCanonical, e1, hs, law02_awake_r, WireCanonical_r]
  | true =>
    have hd := short_all hs src (by simp)
    have p1 : wire_Int_P src = true := tt (by omega)
    have p2 : wire_Bytes_P src = true := tt (by omega)
    have p3 : wire_Text_P src = true := tt (by omega)
    have p4 : wire_Ints_P src = true := tt (by omega)
    have hI : (wire_Int_r2 src == 0) = false ∨ ((wire_Int_r2 src == 0) = true ∧ decide (wire_Int_r0 src < 0) = false ∧ decide (wire_Int_r0 src > 9007199254740991) = false ∧ wire_PutInt_P [] (wire_Int_r0 src) = true ∧
        decide ((wire_PutInt_r [] (wire_Int_r0 src) ++ wire_Int_r1 src).length ≤ big) = true ∧ bytes_Equal_r (wire_PutInt_r [] (wire_Int_r0 src) ++ wire_Int_r1 src) src = true) := by
      by_cases h : wire_Int_r2 src = 0
      · have hr := readN_range src
        have hc := readN_canon h
        have e : wire_PutInt_r [] (wire_Int_r0 src) ++ wire_Int_r1 src = src := by
          show encN (numOf (readN src).1) ++ (readN src).2.1 = src
          rw [numOf_id hr.1 hr.2.1]; exact hc.symm
        have h0 : wire_Int_r0 src = (readN src).1 := rfl
        exact .inr ⟨beq_t h, ff (by omega), ff (by omega), tt ⟨by simp, by omega, by omega⟩, by rw [e]; exact le_big (by omega), by rw [e]; simp [bytes_Equal_r]⟩
      · exact .inl (beq_f h)
    have hB : (wire_Bytes_r2 src == 0) = false ∨ ((wire_Bytes_r2 src == 0) = true ∧ wire_PutBytes_P [] (wire_Bytes_r0 src) = true ∧
        decide ((wire_PutBytes_r [] (wire_Bytes_r0 src) ++ wire_Bytes_r1 src).length ≤ big) = true ∧ bytes_Equal_r (wire_PutBytes_r [] (wire_Bytes_r0 src) ++ wire_Bytes_r1 src) src = true) := by
      by_cases h : wire_Bytes_r2 src = 0
      · have hc := readBytes_canon h
        have e : wire_PutBytes_r [] (wire_Bytes_r0 src) ++ wire_Bytes_r1 src = src := hc
        have hl : (wire_Bytes_r0 src).length ≤ src.length := by
          have := congrArg List.length hc
          simp only [List.length_append] at this
          show (readBytes src).1.length ≤ _
          omega
        exact .inr ⟨beq_t h, tt (by simp; omega), by rw [e]; exact le_big (by omega), by rw [e]; simp [bytes_Equal_r]⟩
      · exact .inl (beq_f h)
    have hT : (wire_Text_r2 src == 0) = false ∨ ((wire_Text_r2 src == 0) = true ∧ wire_PutText_P [] (wire_Text_r0 src) = true ∧
        decide ((wire_PutText_r [] (wire_Text_r0 src) ++ wire_Text_r1 src).length ≤ big) = true ∧ bytes_Equal_r (wire_PutText_r [] (wire_Text_r0 src) ++ wire_Text_r1 src) src = true) := hB
    have hN : (wire_Ints_r2 src != 0) = true ∨ ((wire_Ints_r2 src != 0) = false ∧ wire_PutInts_P [] (wire_Ints_r0 src) = true ∧
        decide ((wire_PutInts_r [] (wire_Ints_r0 src) ++ wire_Ints_r1 src).length ≤ big) = true ∧ bytes_Equal_r (wire_PutInts_r [] (wire_Ints_r0 src) ++ wire_Ints_r1 src) src = true) := by
      by_cases h : wire_Ints_r2 src = 0
      · obtain ⟨hc, hl, ho⟩ := readList_canon h
        have e : wire_PutInts_r [] (wire_Ints_r0 src) ++ wire_Ints_r1 src = src := hc
        refine .inr ⟨bne_f h, ?_, by rw [e]; exact le_big (by omega), by rw [e]; simp [bytes_Equal_r]⟩
        show (decide _ && _) = true
        rw [Bool.and_eq_true]
        exact ⟨tt (by have hl : (wire_Ints_r0 src).length ≤ 65536 := hl; simp; omega), List.all_eq_true.2 fun n hn => tt (by have := ho n hn; omega)⟩
      · exact .inl (bne_t h)
    unfold WireCanonical
    rw [bif_true e1, hs, bif_false (c := !true) rfl, bif_true p1]
    rcases hN with hn | ⟨hn, n1, n2, n3⟩ <;> rcases hT with ht | ⟨ht, t1, t2, t3⟩ <;> rcases hB with hb | ⟨hb, b1, b2, b3⟩ <;> rcases hI with hi | ⟨hi, i1, i2, i3, i4, i5⟩ <;>
      simp only [*, cond_true, cond_false, Bool.not_true, law02_awake_r, WireCanonical_r]⟩

theorem tears_loop {X : Type} (F : Nat) (fail : X) (ex0 ex1 : List Int → Int → Bool → Int → Int → List UInt8 → X) (l : List Int) (cut : Int) (s6 : Bool) (b : List UInt8) (hb : b.length ≤ 8) (h : ∀ i, i < b.length → (readN (b.take i)).2.2 = 9) :
    ∀ (d m i : Nat), i + d = b.length → d < m → WireTears_l1F F fail ex0 ex1 m l cut s6 (b.length : Int) (i : Int) b = ex1 l cut s6 (b.length : Int) (b.length : Int) b
  | d, 0, i, _, hm => by omega
  | 0, m + 1, i, hi, _ => by
    simp only [WireTears_l1F, WireTears_l1]
    rw [bif_false (ff (by omega)), show i = b.length from by omega]
  | d + 1, m + 1, i, hi, hm => by
    have e0 : ((i : Int)).toNat = i := by simp
    have h9 : wire_Int_r2 (b.take i) = 9 := h i (by omega)
    refine Eq.trans ?_ (tears_loop F fail ex0 ex1 l cut s6 b hb h d m (i + 1) (by omega) (by omega))
    simp only [WireTears_l1F, WireTears_l1]
    rw [bif_true (tt (by omega)), bif_true (tt2 (by omega) (by omega)), e0, bif_true (c := wire_Int_P _) (tt (by rw [List.length_take]; omega)), h9, bif_false (bne_f rfl), addI_eq (by omega) (by omega)]
    rfl

def WireTears_P (l : List Int) (n cut : Int) : Bool := (l.all fun n => decide (-9223372036854775808 ≤ n ∧ n < 9223372036854775808)) && decide (-9223372036854775808 ≤ n ∧ n < 9223372036854775808 ∧ 0 ≤ cut ∧ cut < 65536)
def WireTears_r (_ : List Int) (_ _ : Int) : Bool := true
theorem WireTears_plain (l : List Int) (n cut : Int) (h : WireTears_P l n cut = true) : ∃ F, ∀ {X : Type} (fail : X) (ret : Bool → X), WireTears F l n cut fail ret = ret (WireTears_r l n cut) := ⟨9, fun fail ret => by
  unfold WireTears_P at h
  rw [Bool.and_eq_true] at h
  have hn := of_decide_eq_true h.2
  unfold WireTears
  by_cases hl : (l.length : Int) > 60
  · rw [bif_true (tt hl)]; rfl
  rw [bif_false (ff hl), bif_true (c := wire_PutInt_P [] n) (tt ⟨by simp, hn.1, hn.2.1⟩), show wire_PutInt_r [] n = encN (numOf n) from rfl]
  have hm := numOf_range n
  have hlen := encN_length (numOf n)
  refine (tears_loop 9 fail _ _ l cut false (encN (numOf n)) hlen (fun i hi => by rw [readN_torn hm.1 hm.2 i hi]) (encN (numOf n)).length 9 0 (by omega) (by omega)).trans ?_
  rw [bif_true (c := law02_numbers_P l) (tt (by omega))]
  have hko := numbers_ok l
  have hkl := numbers_len l
  generalize law02_numbers_r l = k at *
  rw [bif_true (c := wire_PutInts_P [] k) (by
      show (decide _ && _) = true
      rw [Bool.and_eq_true]
      exact ⟨tt (by simp; omega), List.all_eq_true.2 fun n hn => tt (by have := hko n hn; omega)⟩), show wire_PutInts_r [] k = encInts k from rfl]
  have h1 := encInts_length k
  have h2 := encInts_pos k
  have h3 : maxI 1 ((encInts k).length : Int) = ((encInts k).length : Int) := by rw [maxI_eq]; omega
  have h4 : remI (cvHI cut) ((encInts k).length : Int) = cut % ((encInts k).length : Int) := by rw [cvHI_eq hn.2.2.1 hn.2.2.2, remI_eq hn.2.2.1]
  have h5 := Int.emod_nonneg cut (b := ((encInts k).length : Int)) (by omega)
  have h6 := Int.emod_lt_of_pos cut (b := ((encInts k).length : Int)) (by omega)
  rw [h3, h4]
  have h7 : wire_Ints_r2 ((encInts k).take (cut % ((encInts k).length : Int)).toNat) = 9 := readList_torn (by omega) hko _ (by omega)
  rw [bif_true (bne_t (by omega)), bif_true (tt2 h5 (by omega)), bif_true (c := wire_Ints_P _) (tt (by rw [List.length_take]; omega)), h7, bif_true (by rw [tt (by omega : ((encInts k).length : Int) > 0)]; rfl)]
  rfl⟩
end Go.AI
