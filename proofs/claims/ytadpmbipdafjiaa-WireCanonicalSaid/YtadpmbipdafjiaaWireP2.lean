/- The functions of wire and of its reference answer as said: byte strings and lists. -/
import Derived.Test.YtadpmbipdafjiaaWireG2
import Derived.Test.YtadpmbipdafjiaaWireP
namespace Go.AI
open Go

theorem putBytes_loop {X : Type} (F : Nat) (fail : X) (ex0 : List UInt8 → Int → Int → List UInt8 → X) (b dst : List UInt8) (hb : dst.length + b.length ≤ 2147483648) : ∀ (j m i : Nat), i + j = b.length → j < m →
    wire_PutBytes_l1F F fail ex0 m b (b.length : Nat) i (dst ++ b.take i) = ex0 b (b.length : Nat) (b.length : Nat) (dst ++ b)
  | 0, m + 1, i, h1, h2 => by
    simp only [wire_PutBytes_l1F, wire_PutBytes_l1]
    have e : i = b.length := by omega
    subst e
    rw [bif_false (ff (by omega)), List.take_length]
  | j + 1, m + 1, i, h1, h2 => by
    simp only [wire_PutBytes_l1F, wire_PutBytes_l1]
    rw [bif_true (tt (by omega)), bif_true (tt2 (by omega) (by omega)), Int.toNat_natCast, List.append_assoc, ← take_snoc b i 0 (by omega), bif_true (le_big (by simp; omega)), addI_eq (by omega) (by omega)]
    exact putBytes_loop F fail ex0 b dst hb j m (i + 1) (by omega) (by omega)
theorem wire_PutBytes_plain (dst b : List UInt8) (h : wire_PutBytes_P dst b = true) : ∃ F, ∀ {X : Type} (fail : X) (ret : List UInt8 → X), wire_PutBytes F dst b fail ret = ret (wire_PutBytes_r dst b) := ⟨b.length + 1, fun fail ret => by
  simp only [wire_PutBytes_P, decide_eq_true_eq] at h
  have hl := encN_length (numOf b.length)
  unfold wire_PutBytes
  rw [bif_true (c := clone_byte_P _) (tt (by omega)), bif_true (c := wire_put_P _ _) (tt ⟨by unfold clone_byte_r; omega, by omega, by omega⟩)]
  have := putBytes_loop (b.length + 1) fail (fun (s14 : List UInt8) (s15 : Int) (s16 : Int) (dst1 : List UInt8) => ret dst1) b (dst ++ encN (numOf b.length)) (by simp; omega) b.length (b.length + 1) 0 (by omega) (by omega)
  rw [List.take_zero, List.append_nil] at this
  exact this⟩
theorem putText_loop {X : Type} (F : Nat) (fail : X) (ex0 : Int → Int → List UInt8 → List UInt8 → X) (b dst : List UInt8) (hb : dst.length + b.length ≤ 2147483648) : ∀ (j m i : Nat), i + j = b.length → j < m →
    wire_PutText_l1F F fail ex0 m (b.length : Nat) i (dst ++ b.take i) b = ex0 (b.length : Nat) (b.length : Nat) (dst ++ b) b
  | 0, m + 1, i, h1, h2 => by
    simp only [wire_PutText_l1F, wire_PutText_l1]
    have e : i = b.length := by omega
    subst e
    rw [bif_false (ff (by omega)), List.take_length]
  | j + 1, m + 1, i, h1, h2 => by
    simp only [wire_PutText_l1F, wire_PutText_l1]
    rw [bif_true (tt (by omega)), bif_true (tt2 (by omega) (by omega)), Int.toNat_natCast, List.append_assoc, ← take_snoc b i 0 (by omega), bif_true (le_big (by simp; omega)), addI_eq (by omega) (by omega)]
    exact putText_loop F fail ex0 b dst hb j m (i + 1) (by omega) (by omega)
theorem wire_PutText_plain (dst b : List UInt8) (h : wire_PutText_P dst b = true) : ∃ F, ∀ {X : Type} (fail : X) (ret : List UInt8 → X), wire_PutText F dst b fail ret = ret (wire_PutText_r dst b) := ⟨b.length + 1, fun fail ret => by
  simp only [wire_PutText_P, decide_eq_true_eq] at h
  have hl := encN_length (numOf b.length)
  unfold wire_PutText
  rw [bif_true (le_big (by omega)), bif_true (c := clone_byte_P _) (tt (by omega)), bif_true (c := wire_put_P _ _) (tt ⟨by unfold clone_byte_r; omega, by omega, by omega⟩)]
  have := putText_loop (b.length + 1) fail (fun (s15 : Int) (s16 : Int) (dst1 : List UInt8) (s14 : List UInt8) => ret dst1) b (dst ++ encN (numOf b.length)) (by simp; omega) b.length (b.length + 1) 0 (by omega) (by omega)
  rw [List.take_zero, List.append_nil] at this
  exact this⟩
theorem flat_snoc (l : List Int) (i : Nat) (h : i < l.length) : (l.take (i + 1)).flatMap (fun n => encN (numOf n)) = (l.take i).flatMap (fun n => encN (numOf n)) ++ encN (numOf (l.getD i 0)) := by
  rw [take_snoc l i 0 h, List.flatMap_append]; simp
theorem flat_length : ∀ (l : List Int), (l.flatMap fun n => encN (numOf n)).length ≤ 8 * l.length
  | [] => by simp
  | a :: l => by
    have h1 := encN_length (numOf a)
    have h2 := flat_length l
    simp only [List.flatMap_cons, List.length_append, List.length_cons]; omega
/-- The numbers that a list of numbers may hold. -/
def I64s (l : List Int) : Prop := ∀ i, i < l.length → -9223372036854775808 ≤ l.getD i 0 ∧ l.getD i 0 < 9223372036854775808
theorem putInts_loop {X : Type} (F : Nat) (fail : X) (ex0 : List Int → Int → Int → List UInt8 → X) (l : List Int) (dst : List UInt8) (hb : dst.length + 8 * l.length ≤ 2000000000) (hl : I64s l) : ∀ (j m i : Nat), i + j = l.length → j < m →
    wire_PutInts_l1F F fail ex0 m l (l.length : Nat) i (dst ++ (l.take i).flatMap fun n => encN (numOf n)) = ex0 l (l.length : Nat) (l.length : Nat) (dst ++ l.flatMap fun n => encN (numOf n))
  | 0, m + 1, i, h1, h2 => by
    simp only [wire_PutInts_l1F, wire_PutInts_l1]
    have e : i = l.length := by omega
    subst e
    rw [bif_false (ff (by omega)), List.take_length]
  | j + 1, m + 1, i, h1, h2 => by
    simp only [wire_PutInts_l1F, wire_PutInts_l1]
    have h3 := flat_length (l.take i)
    rw [List.length_take] at h3
    rw [bif_true (tt (by omega)), bif_true (tt2 (by omega) (by omega)), Int.toNat_natCast, bif_true (c := wire_put_P _ _) (tt ⟨by simp only [List.length_append]; omega, hl i (by omega)⟩)]
    unfold wire_put_r
    rw [List.append_assoc, ← flat_snoc l i (by omega), addI_eq (by omega) (by omega)]
    exact putInts_loop F fail ex0 l dst hb hl j m (i + 1) (by omega) (by omega)
theorem wire_PutInts_plain (dst : List UInt8) (l : List Int) (h : wire_PutInts_P dst l = true) : ∃ F, ∀ {X : Type} (fail : X) (ret : List UInt8 → X), wire_PutInts F dst l fail ret = ret (wire_PutInts_r dst l) := ⟨l.length + 1, fun fail ret => by
  simp only [wire_PutInts_P, Bool.and_eq_true, decide_eq_true_eq, List.all_eq_true] at h
  have hl := encN_length (numOf l.length)
  have hi : I64s l := fun i hi => h.2 _ (by simp [List.getD, hi])
  unfold wire_PutInts
  rw [bif_true (c := clone_byte_P _) (tt (by omega)), bif_true (c := wire_put_P _ _) (tt ⟨by unfold clone_byte_r; omega, by omega, by omega⟩)]
  have := putInts_loop (l.length + 1) fail (fun (s14 : List Int) (s15 : Int) (s16 : Int) (dst1 : List UInt8) => ret dst1) l (dst ++ encN (numOf l.length)) (by simp; omega) hi l.length (l.length + 1) 0 (by omega) (by omega)
  rw [List.take_zero, List.flatMap_nil, List.append_nil] at this
  refine this.trans ?_
  simp [wire_PutInts_r, encInts]⟩
theorem refPutInts_loop {X : Type} (F : Nat) (fail : X) (ex0 : List Int → Int → List UInt8 → X) (l : List Int) (dst : List UInt8) (hb : dst.length + 8 * l.length ≤ 2000000000) (hl : I64s l) : ∀ (j m i : Nat), i + j = l.length → j < m →
    ref02_PutInts_l1F F fail ex0 m l i (dst ++ (l.take i).flatMap fun n => encN (numOf n)) = ex0 l (l.length : Nat) (dst ++ l.flatMap fun n => encN (numOf n))
  | 0, m + 1, i, h1, h2 => by
    simp only [ref02_PutInts_l1F, ref02_PutInts_l1]
    have e : i = l.length := by omega
    subst e
    rw [bif_false (ff (by omega)), List.take_length]
  | j + 1, m + 1, i, h1, h2 => by
    simp only [ref02_PutInts_l1F, ref02_PutInts_l1]
    have h3 := flat_length (l.take i)
    rw [List.length_take] at h3
    rw [bif_true (tt (by omega)), bif_true (tt2 (by omega) (by omega)), Int.toNat_natCast, bif_true (c := ref02_PutInt_P _ _) (tt ⟨by simp only [List.length_append]; omega, hl i (by omega)⟩)]
    unfold ref02_PutInt_r
    rw [List.append_assoc, ← flat_snoc l i (by omega), addI_eq (by omega) (by omega)]
    exact refPutInts_loop F fail ex0 l dst hb hl j m (i + 1) (by omega) (by omega)
theorem ref02_PutInts_plain (dst : List UInt8) (l : List Int) (h : ref02_PutInts_P dst l = true) : ∃ F, ∀ {X : Type} (fail : X) (ret : List UInt8 → X), ref02_PutInts F dst l fail ret = ret (ref02_PutInts_r dst l) := ⟨l.length + 1, fun fail ret => by
  simp only [ref02_PutInts_P, Bool.and_eq_true, decide_eq_true_eq, List.all_eq_true] at h
  have hl := encN_length (numOf l.length)
  have hi : I64s l := fun i hi => h.2 _ (by simp [List.getD, hi])
  unfold ref02_PutInts
  rw [bif_true (c := ref02_PutInt_P _ _) (tt ⟨by omega, by omega, by omega⟩)]
  have := refPutInts_loop (l.length + 1) fail (fun (l1 : List Int) (i : Int) (out : List UInt8) => ret out) l (dst ++ encN (numOf l.length)) (by simp; omega) hi l.length (l.length + 1) 0 (by omega) (by omega)
  rw [List.take_zero, List.flatMap_nil, List.append_nil] at this
  refine this.trans ?_
  simp [ref02_PutInts_r, encInts]⟩
theorem ref02_PutBytes_plain (dst b : List UInt8) (h : ref02_PutBytes_P dst b = true) : ∃ F, ∀ {X : Type} (fail : X) (ret : List UInt8 → X), ref02_PutBytes F dst b fail ret = ret (ref02_PutBytes_r dst b) := ⟨0, fun fail ret => by
  simp only [ref02_PutBytes_P, decide_eq_true_eq] at h
  have hl := encN_length (numOf b.length)
  unfold ref02_PutBytes
  rw [bif_true (c := ref02_PutInt_P _ _) (tt ⟨by omega, by omega, by omega⟩), bif_true (le_big (by simp [ref02_PutInt_r]; omega))]
  rfl⟩
theorem ref02_PutText_plain (dst b : List UInt8) (h : ref02_PutText_P dst b = true) : ∃ F, ∀ {X : Type} (fail : X) (ret : List UInt8 → X), ref02_PutText F dst b fail ret = ret (ref02_PutText_r dst b) := ⟨0, fun fail ret => by
  simp only [ref02_PutText_P, decide_eq_true_eq] at h
  have hl := encN_length (numOf b.length)
  unfold ref02_PutText
  rw [bif_true (c := ref02_PutInt_P _ _) (tt ⟨by omega, by omega, by omega⟩), bif_true (le_big (by simp [ref02_PutInt_r]; omega))]
  rfl⟩

/-- What reading a number answers is in its range. -/
theorem readN_range (src : List UInt8) : 0 ≤ (readN src).1 ∧ (readN src).1 ≤ 9007199254740991 ∧ (readN src).2.1.length ≤ src.length ∧ 0 ≤ (readN src).2.2 ∧ (readN src).2.2 ≤ 9 := by
  cases src with
  | nil => simp [readN]
  | cons b r =>
    simp only [readN]
    repeat' split
    all_goals (simp; try omega)
    rename_i h
    unfold maxInt at h
    omega
theorem readLen_range (src : List UInt8) : 0 ≤ (readLen src).1 ∧ (readLen src).1 ≤ 9007199254740991 ∧ (readLen src).2.1.length ≤ src.length ∧ 0 ≤ (readLen src).2.2 ∧ (readLen src).2.2 ≤ 9 := by
  have := readN_range src
  unfold readLen
  simp only
  split
  · simp
  · exact this
theorem readLen_small (src : List UInt8) (h : (readLen src).2.2 = 0) : (readLen src).1 ≤ 65536 := by
  unfold readLen at h ⊢
  simp only at h ⊢
  split at h
  · cases h
  · rename_i h2
    rw [if_neg h2]
    rcases Decidable.not_and_iff_or_not.1 h2 with h3 | h3
    · exact absurd h h3
    · omega
theorem readLen_err {src : List UInt8} (h : (readN src).2.2 ≠ 0) : readLen src = readN src := by simp [readLen, h]
theorem readLen_big {src : List UInt8} (h : (readN src).2.2 = 0) (k : (readN src).1 > 65536) : readLen src = (0, [], 5) := by simp [readLen, h, k]
theorem readLen_ok {src : List UInt8} (h : (readN src).2.2 = 0) (k : ¬ (readN src).1 > 65536) : readLen src = readN src := by simp [readLen, h, k]
theorem ref02_length_plain (src : List UInt8) (h : ref02_length_P src = true) : ∃ F, ∀ {X : Type} (fail : X) (ret : Int → List UInt8 → Int → X), ref02_length F src fail ret = ret (ref02_length_r0 src) (ref02_length_r1 src) (ref02_length_r2 src) := ⟨0, fun fail ret => by
  unfold ref02_length ref02_length_r0 ref02_length_r1 ref02_length_r2 readLen
  rw [bif_true (c := ref02_Int_P _) h]
  rw [show ref02_Int_r0 src = (readN src).1 from rfl, show ref02_Int_r1 src = (readN src).2.1 from rfl, show ref02_Int_r2 src = (readN src).2.2 from rfl]
  by_cases h1 : (readN src).2.2 = 0
  · rw [bif_true (beq_t h1)]
    by_cases h2 : (readN src).1 > 65536
    · rw [bif_true (tt h2), if_pos ⟨h1, h2⟩]
    · rw [bif_false (ff h2), if_neg (fun h => h2 h.2)]
  · rw [bif_false (beq_f h1), if_neg (fun h => h1 h.1)]⟩
theorem ref02_Bytes_plain (src : List UInt8) (h : ref02_Bytes_P src = true) : ∃ F, ∀ {X : Type} (fail : X) (ret : List UInt8 → List UInt8 → Int → X), ref02_Bytes F src fail ret = ret (ref02_Bytes_r0 src) (ref02_Bytes_r1 src) (ref02_Bytes_r2 src) := ⟨0, fun fail ret => by
  have h0 := h
  simp only [ref02_Bytes_P, decide_eq_true_eq] at h0
  have hr := readLen_range src
  unfold ref02_Bytes ref02_Bytes_r0 ref02_Bytes_r1 ref02_Bytes_r2 readBytes
  rw [bif_true (c := ref02_length_P _) h]
  rw [show ref02_length_r0 src = (readLen src).1 from rfl, show ref02_length_r1 src = (readLen src).2.1 from rfl, show ref02_length_r2 src = (readLen src).2.2 from rfl]
  by_cases h1 : (readLen src).2.2 = 0
  · rw [bif_false (bne_f h1), if_neg (by simpa using h1)]
    by_cases h2 : ((readLen src).2.1.length : Int) < (readLen src).1
    · rw [bif_true (tt h2), if_pos h2]
    · rw [bif_false (ff h2), if_neg h2, bif_true (tt2 (by omega) (by omega)), bif_true (c := ref02_rest_P _) (tt (by simp; omega)), bif_true (tt2 (by omega) (by omega)), bif_true (c := ref02_rest_P _) (tt (by simp; omega))]
      unfold ref02_rest_r
      rw [List.take_of_length_le (l := List.drop _ _) (by simp)]
  · rw [bif_true (bne_t h1), if_pos (by simpa using h1)]⟩
theorem wire_Bytes_plain (src : List UInt8) (h : wire_Bytes_P src = true) : ∃ F, ∀ {X : Type} (fail : X) (ret : List UInt8 → List UInt8 → Int → X), wire_Bytes F src fail ret = ret (wire_Bytes_r0 src) (wire_Bytes_r1 src) (wire_Bytes_r2 src) := ⟨0, fun fail ret => by
  have h0 := h
  simp only [wire_Bytes_P, decide_eq_true_eq] at h0
  have hr := readN_range src
  unfold wire_Bytes wire_Bytes_r0 wire_Bytes_r1 wire_Bytes_r2
  rw [bif_true (c := wire_Int_P _) h]
  rw [show wire_Int_r0 src = (readN src).1 from rfl, show wire_Int_r1 src = (readN src).2.1 from rfl, show wire_Int_r2 src = (readN src).2.2 from rfl]
  by_cases h1 : (readN src).2.2 = 0
  · rw [bif_true (beq_t h1)]
    by_cases h3 : (readN src).1 > 65536
    · have e : readBytes src = ([], [], 5) := by simp [readBytes, readLen_big h1 h3]
      rw [bif_true (tt h3), e]
    rw [bif_false (ff h3), bif_false (bne_f h1)]
    by_cases h2 : ((readN src).2.1.length : Int) < (readN src).1
    · have e : readBytes src = ([], [], 9) := by simp [readBytes, readLen_ok h1 h3, h1, h2]
      rw [bif_true (tt h2), e]
    · have e : readBytes src = ((readN src).2.1.take (readN src).1.toNat, (readN src).2.1.drop (readN src).1.toNat, 0) := by simp [readBytes, readLen_ok h1 h3, h1, h2]
      rw [bif_false (ff h2), e, bif_true (tt2 (by omega) (by omega)), bif_true (c := clone_byte_P _) (tt (by simp; omega)), bif_true (tt2 (by omega) (by omega)), bif_true (c := clone_byte_P _) (tt (by simp; omega))]
      unfold clone_byte_r
      rw [List.take_of_length_le (l := List.drop _ _) (by simp)]
  · have e : readBytes src = ([], [], (readN src).2.2) := by simp [readBytes, readLen_err h1, h1]
    rw [bif_false (beq_f h1), bif_true (bne_t h1), e]⟩
theorem wire_Text_plain (src : List UInt8) (h : wire_Text_P src = true) : ∃ F, ∀ {X : Type} (fail : X) (ret : List UInt8 → List UInt8 → Int → X), wire_Text F src fail ret = ret (wire_Text_r0 src) (wire_Text_r1 src) (wire_Text_r2 src) := ⟨0, fun fail ret => by
  unfold wire_Text
  rw [bif_true (c := wire_Bytes_P _) h]; rfl⟩

theorem readInts_len : ∀ (n : Nat) (b : List UInt8) (out : List Int), (readInts n b out).2.1.length ≤ b.length ∧ (readInts n b out).1.length ≤ out.length + n
  | 0, b, out => by simp [readInts]
  | n + 1, b, out => by
    have h1 := readN_range b
    have h2 := readInts_len n (readN b).2.1 (out ++ [(readN b).1])
    simp only [readInts]
    split
    · simp
    · simp only [List.length_append, List.length_cons, List.length_nil] at h2; omega
theorem ints_loop {X : Type} (F : Nat) (fail : X) (k : List Int → List UInt8 → Int → X) (s6 : Int) (ex0 ex1 : Int → Int → Int → List UInt8 → List Int → X) (n : Nat) (hn : n ≤ 65536)
    (h0 : ∀ e a b c d, e ≠ 0 → ex0 e a b c d = k [] [] e) (h1 : ∀ a b c d, ex1 s6 a b c d = k d c 0) : ∀ (j m i : Nat) (b : List UInt8) (out : List Int), i + j = n → j < m → b.length ≤ 2000000000 → out.length ≤ i →
    wire_Ints_l1F F fail ex0 ex1 m s6 (n : Nat) i b out = (let r := readInts j b out; k r.1 r.2.1 r.2.2)
  | 0, m + 1, i, b, out, e1, e2, hb, ho => by
    simp only [wire_Ints_l1F, wire_Ints_l1]
    have e : i = n := by omega
    subst e
    rw [bif_false (ff (by omega)), h1]; rfl
  | j + 1, m + 1, i, b, out, e1, e2, hb, ho => by
    simp only [wire_Ints_l1F, wire_Ints_l1]
    have hr := readN_range b
    rw [bif_true (tt (by omega)), bif_true (c := wire_Int_P _) (tt hb)]
    rw [show wire_Int_r0 b = (readN b).1 from rfl, show wire_Int_r1 b = (readN b).2.1 from rfl, show wire_Int_r2 b = (readN b).2.2 from rfl]
    simp only [readInts]
    by_cases h : (readN b).2.2 = 0
    · rw [bif_false (bne_f h), if_neg (by simpa using h), bif_true (le_big (by simp; omega)), addI_eq (by omega) (by omega)]
      exact ints_loop F fail k s6 ex0 ex1 n hn h0 h1 j m (i + 1) _ _ (by omega) (by omega) (by omega) (by simp; omega)
    · rw [bif_true (bne_t h), if_pos (by simpa using h), h0 _ _ _ _ _ h]
theorem wire_Ints_plain (src : List UInt8) (h : wire_Ints_P src = true) : ∃ F, ∀ {X : Type} (fail : X) (ret : List Int → List UInt8 → Int → X), wire_Ints F src fail ret = ret (wire_Ints_r0 src) (wire_Ints_r1 src) (wire_Ints_r2 src) := ⟨65537, fun fail ret => by
  have h0 := h
  simp only [wire_Ints_P, decide_eq_true_eq] at h0
  have hr := readN_range src
  unfold wire_Ints wire_Ints_r0 wire_Ints_r1 wire_Ints_r2
  rw [bif_true (c := wire_Int_P _) h]
  rw [show wire_Int_r0 src = (readN src).1 from rfl, show wire_Int_r1 src = (readN src).2.1 from rfl, show wire_Int_r2 src = (readN src).2.2 from rfl]
  by_cases h1 : (readN src).2.2 = 0
  · rw [bif_true (beq_t h1)]
    by_cases h3 : (readN src).1 > 65536
    · have e : readList src = ([], [], 5) := by simp [readList, readLen_big h1 h3]
      rw [bif_true (tt h3), e]
    have e : readList src = readInts (readN src).1.toNat (readN src).2.1 [] := by simp [readList, readLen_ok h1 h3, h1]
    rw [bif_false (ff h3), bif_false (bne_f h1), e]
    obtain ⟨n, hn⟩ := Int.eq_ofNat_of_zero_le hr.1
    rw [hn]
    refine (ints_loop 65537 fail ret 0 _ _ n (by omega) (fun e a b c d he => ?_) (fun a b c d => rfl) n 65537 0 _ [] (by omega) (by omega) (by omega) (by simp)).trans ?_
    · exact bif_true (bne_t he) _ _
    · rfl
  · have e : readList src = ([], [], (readN src).2.2) := by simp [readList, readLen_err h1, h1]
    rw [bif_false (beq_f h1), bif_true (bne_t h1), e]⟩
theorem refInts_loop {X : Type} (F : Nat) (fail : X) (k : List Int → List UInt8 → Int → X) (s6 : Int) (ex0 ex1 : Int → Int → Int → List UInt8 → List Int → X) (n : Nat) (hn : n ≤ 65536)
    (h0 : ∀ e a b c d, e ≠ 0 → ex0 e a b c d = k [] [] e) (h1 : ∀ a b c d, ex1 s6 a b c d = k d c 0) : ∀ (j m i : Nat) (b : List UInt8) (out : List Int), i + j = n → j < m → b.length ≤ 2000000000 → out.length ≤ i →
    ref02_Ints_l1F F fail ex0 ex1 m s6 (n : Nat) i b out = (let r := readInts j b out; k r.1 r.2.1 r.2.2)
  | 0, m + 1, i, b, out, e1, e2, hb, ho => by
    simp only [ref02_Ints_l1F, ref02_Ints_l1]
    have e : i = n := by omega
    subst e
    rw [bif_false (ff (by omega)), h1]; rfl
  | j + 1, m + 1, i, b, out, e1, e2, hb, ho => by
    simp only [ref02_Ints_l1F, ref02_Ints_l1]
    have hr := readN_range b
    rw [bif_true (tt (by omega)), bif_true (c := ref02_Int_P _) (tt hb)]
    rw [show ref02_Int_r0 b = (readN b).1 from rfl, show ref02_Int_r1 b = (readN b).2.1 from rfl, show ref02_Int_r2 b = (readN b).2.2 from rfl]
    simp only [readInts]
    by_cases h : (readN b).2.2 = 0
    · rw [bif_false (bne_f h), if_neg (by simpa using h), bif_true (le_big (by simp; omega)), addI_eq (by omega) (by omega)]
      exact refInts_loop F fail k s6 ex0 ex1 n hn h0 h1 j m (i + 1) _ _ (by omega) (by omega) (by omega) (by simp; omega)
    · rw [bif_true (bne_t h), if_pos (by simpa using h), h0 _ _ _ _ _ h]
theorem ref02_Ints_plain (src : List UInt8) (h : ref02_Ints_P src = true) : ∃ F, ∀ {X : Type} (fail : X) (ret : List Int → List UInt8 → Int → X), ref02_Ints F src fail ret = ret (ref02_Ints_r0 src) (ref02_Ints_r1 src) (ref02_Ints_r2 src) := ⟨65537, fun fail ret => by
  have h0 := h
  simp only [ref02_Ints_P, decide_eq_true_eq] at h0
  have hr := readLen_range src
  have hs := readLen_small src
  unfold ref02_Ints ref02_Ints_r0 ref02_Ints_r1 ref02_Ints_r2 readList
  rw [bif_true (c := ref02_length_P _) h]
  rw [show ref02_length_r0 src = (readLen src).1 from rfl, show ref02_length_r1 src = (readLen src).2.1 from rfl, show ref02_length_r2 src = (readLen src).2.2 from rfl]
  by_cases h1 : (readLen src).2.2 = 0
  · rw [bif_false (bne_f h1), if_neg (by simpa using h1)]
    have hs := hs h1
    obtain ⟨n, hn⟩ := Int.eq_ofNat_of_zero_le hr.1
    rw [hn]
    exact refInts_loop 65537 fail ret 0 _ _ n (by omega) (fun e a b c d he => rfl) (fun a b c d => rfl) n 65537 0 _ [] (by omega) (by omega) (by omega) (by simp)
  · rw [bif_true (bne_t h1), if_pos (by simpa using h1)]⟩
theorem bytes_Equal_plain (a b : List UInt8) : ∃ F, ∀ {X : Type} (fail : X) (ret : Bool → X), bytes_Equal F a b fail ret = ret (bytes_Equal_r a b) := ⟨0, fun _ _ => rfl⟩
theorem equal_loop {X : Type} (F : Nat) (fail : X) (ex0 ex1 : List Int → List Int → Bool → Int → Int → X) (k : Bool → X) (a b : List Int) (hl : a.length = b.length) (ha : a.length ≤ 1000000000000)
    (h0 : ∀ x y z u, ex0 x y false z u = k false) (h1 : ∀ x y z u v, ex1 x y z u v = k true) : ∀ (j m i : Nat) (s4 : Bool), i + j = a.length → j < m →
    equal_int_l1F F fail ex0 ex1 m a b s4 (a.length : Nat) i = k (a.drop i == b.drop i)
  | 0, m + 1, i, s4, e1, e2 => by
    simp only [equal_int_l1F, equal_int_l1]
    rw [bif_false (ff (by omega)), h1, List.drop_eq_nil_of_le (by omega), List.drop_eq_nil_of_le (by omega)]; rfl
  | j + 1, m + 1, i, s4, e1, e2 => by
    simp only [equal_int_l1F, equal_int_l1]
    have e3 : a.drop i = a.getD i 0 :: a.drop (i + 1) := by rw [List.drop_eq_getElem_cons (by omega)]; simp [List.getD, show i < a.length by omega]
    have e4 : b.drop i = b.getD i 0 :: b.drop (i + 1) := by rw [List.drop_eq_getElem_cons (by omega)]; simp [List.getD, show i < b.length by omega]
    rw [bif_true (tt (by omega)), bif_true (tt2 (by omega) (by omega)), bif_true (tt2 (by omega) (by omega)), Int.toNat_natCast, e3, e4]
    by_cases h : a.getD i 0 = b.getD i 0
    · rw [bif_false (bne_f h), addI_eq (by omega) (by omega), h, List.cons_beq_cons, beq_self_eq_true, Bool.true_and]
      exact equal_loop F fail ex0 ex1 k a b hl ha h0 h1 j m (i + 1) s4 (by omega) (by omega)
    · rw [bif_true (bne_t h), h0, List.cons_beq_cons, beq_f h, Bool.false_and]
theorem equal_int_plain (a b : List Int) (h : equal_int_P a b = true) : ∃ F, ∀ {X : Type} (fail : X) (ret : Bool → X), equal_int F a b fail ret = ret (equal_int_r a b) := ⟨a.length + 1, fun fail ret => by
  simp only [equal_int_P, decide_eq_true_eq] at h
  unfold equal_int equal_int_r
  by_cases hl : a.length = b.length
  · rw [bif_false (bne_f (by omega))]
    exact equal_loop (a.length + 1) fail _ _ ret a b hl h.1 (fun _ _ _ _ => rfl) (fun _ _ _ _ _ => rfl) a.length _ 0 false (by omega) (by omega)
  · rw [bif_true (bne_t (by omega))]
    have : (a == b) = false := by
      rw [beq_eq_false_iff_ne]
      rintro rfl; exact hl rfl
    rw [this]⟩
theorem short_loop {X : Type} (F : Nat) (fail : X) (ex0 ex1 : List (List UInt8) → Int → Int → Int → X) (k : Bool → X) (l : List (List UInt8)) (hl : l.length ≤ 1000000000000)
    (h0 : ∀ a (b : Nat) c d, ex0 a b c d = k false) (h1 : ∀ a b c d, ex1 a b c d = k true) : ∀ (j m i : Nat) (s4 : Int), i + j = l.length → j < m →
    law02_short_l1F F fail ex0 ex1 m l s4 (l.length : Nat) i = k (law02_short_r (l.drop i))
  | 0, m + 1, i, s4, e1, e2 => by
    simp only [law02_short_l1F, law02_short_l1]
    rw [bif_false (ff (by omega)), h1, List.drop_eq_nil_of_le (by omega)]; rfl
  | j + 1, m + 1, i, s4, e1, e2 => by
    simp only [law02_short_l1F, law02_short_l1]
    have e3 : l.drop i = l.getD i [] :: l.drop (i + 1) := by rw [List.drop_eq_getElem_cons (by omega)]; simp [List.getD, show i < l.length by omega]
    rw [bif_true (tt (by omega)), bif_true (tt2 (by omega) (by omega)), Int.toNat_natCast, e3]
    by_cases h : ((l.getD i []).length : Int) > 400
    · rw [bif_true (tt h), h0]
      simp only [law02_short_r, List.all_cons]
      rw [ff (by omega)]; rfl
    · rw [bif_false (ff h), addI_eq (by omega) (by omega)]
      refine (short_loop F fail ex0 ex1 k l hl h0 h1 j m (i + 1) s4 (by omega) (by omega)).trans ?_
      simp only [law02_short_r, List.all_cons]
      rw [tt (p := (l.getD i []).length ≤ 400) (by omega), Bool.true_and]
theorem law02_short_plain (l : List (List UInt8)) (h : law02_short_P l = true) : ∃ F, ∀ {X : Type} (fail : X) (ret : Bool → X), law02_short F l fail ret = ret (law02_short_r l) := ⟨l.length + 1, fun fail ret => by
  simp only [law02_short_P, decide_eq_true_eq] at h
  unfold law02_short
  exact short_loop (l.length + 1) fail _ _ ret l h (fun a b c d => by show ret (!(decide ((b : Int) ≥ 0))) = ret false; rw [tt (by omega)]; rfl) (fun _ _ _ _ => rfl) l.length _ 0 0 (by omega) (by omega)⟩
end Go.AI
