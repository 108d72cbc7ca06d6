/- Texts of the proof, joined: WireP2. -/
import Derived.Test.YtnmidfcefljafaaGreatQtG
import Derived.Test.YtnmidfcefljafaaGreatQtWireP
namespace Go.AI
open Go
theorem putBytes_loop {X : Type} (F : Nat) (fail : X) (ex0 : List UInt8 → Int → Int → List UInt8 → X) (b dst : List UInt8) (hb : dst.length + b.length ≤ 2147483648) : ∀ (j m i : Nat), i + j = b.length → j < m →
  wire_PutBytes_l1F F fail ex0 m b (b.length : Nat) i (dst ++ b.take i) = ex0 b (b.length : Nat) (b.length : Nat) (dst ++ b)
 | 0, m + 1, i, h1, h2 => by
  simp only [wire_PutBytes_l1F, wire_PutBytes_l1]
  have e : i = b.length := by omega
  subst e
  rw [bif_false (ff (by omega)), List.take_length]
 | j + 1, m + 1, i, h1, h2 => by
  simp only [wire_PutBytes_l1F, wire_PutBytes_l1]
  rw [bif_true (tt (by omega)), bif_true (tt2 (by omega) (by omega)), Int.toNat_natCast, List.append_assoc, ← take_snoc b i 0 (by omega), bif_true (le_big (by simp; omega)), addI_eq (by omega) (by omega)]
  exact putBytes_loop F fail ex0 b dst hb j m (i + 1) (by omega) (by omega)
theorem wire_PutBytes_plain (dst b : List UInt8) (h : wire_PutBytes_P dst b = true) : ∃ F, ∀ {X : Type} (fail : X) (ret : List UInt8 → X), wire_PutBytes F dst b fail ret = ret (wire_PutBytes_r dst b) := ⟨b.length + 1, fun fail ret => by
 simp only [wire_PutBytes_P, decide_eq_true_eq] at h
 have hl := encN_length (numOf b.length)
 unfold wire_PutBytes
 rw [bif_true (c := clone_byte_P _) (tt (by omega)), bif_true (c := wire_put_P _ _) (tt ⟨by unfold clone_byte_r; omega, by omega, by omega⟩)]
 have := putBytes_loop (b.length + 1) fail (fun (s14 : List UInt8) (s15 : Int) (s16 : Int) (dst1 : List UInt8) => ret dst1) b (dst ++ encN (numOf b.length)) (by simp; omega) b.length (b.length + 1) 0 (by omega) (by omega)
 rw [List.take_zero, List.append_nil] at this
 exact this⟩
theorem readN_range (src : List UInt8) : 0 ≤ (readN src).1 ∧ (readN src).1 ≤ 9007199254740991 ∧ (readN src).2.1.length ≤ src.length ∧ 0 ≤ (readN src).2.2 ∧ (readN src).2.2 ≤ 9 := by
 cases src with
 | nil => simp [readN]
 | cons b r =>
  simp only [readN]
  repeat' split
  all_goals (simp; try omega)
  rename_i h
  unfold maxInt at h
  omega
theorem readLen_range (src : List UInt8) : 0 ≤ (readLen src).1 ∧ (readLen src).1 ≤ 9007199254740991 ∧ (readLen src).2.1.length ≤ src.length ∧ 0 ≤ (readLen src).2.2 ∧ (readLen src).2.2 ≤ 9 := by
 have := readN_range src
 unfold readLen
 simp only
 split
 ·simp
 ·exact this
theorem readLen_small (src : List UInt8) (h : (readLen src).2.2 = 0) : (readLen src).1 ≤ 65536 := by
 unfold readLen at h ⊢
 simp only at h ⊢
 split at h
 ·cases h
 ·rename_i h2
  rw [if_neg h2]
  rcases Decidable.not_and_iff_or_not.1 h2 with h3 | h3
  ·exact absurd h h3
  ·omega
theorem readLen_err {src : List UInt8} (h : (readN src).2.2 ≠ 0) : readLen src = readN src := by simp [readLen, h]
theorem readLen_big {src : List UInt8} (h : (readN src).2.2 = 0) (k : (readN src).1 > 65536) : readLen src = (0, [], 5) := by simp [readLen, h, k]
theorem readLen_ok {src : List UInt8} (h : (readN src).2.2 = 0) (k : ¬ (readN src).1 > 65536) : readLen src = readN src := by simp [readLen, h, k]
theorem wire_Bytes_plain (src : List UInt8) (h : wire_Bytes_P src = true) : ∃ F, ∀ {X : Type} (fail : X) (ret : List UInt8 → List UInt8 → Int → X), wire_Bytes F src fail ret = ret (wire_Bytes_r0 src) (wire_Bytes_r1 src) (wire_Bytes_r2 src) := ⟨0, fun fail ret => by
 have h0 := h
 simp only [wire_Bytes_P, decide_eq_true_eq] at h0
 have hr := readN_range src
 unfold wire_Bytes wire_Bytes_r0 wire_Bytes_r1 wire_Bytes_r2
 rw [bif_true (c := wire_Int_P _) h]
 rw [show wire_Int_r0 src = (readN src).1 from rfl, show wire_Int_r1 src = (readN src).2.1 from rfl, show wire_Int_r2 src = (readN src).2.2 from rfl]
 by_cases h1 : (readN src).2.2 = 0
 ·rw [bif_true (beq_t h1)]
  by_cases h3 : (readN src).1 > 65536
  ·have e : readBytes src = ([], [], 5) := by simp [readBytes, readLen_big h1 h3]
   rw [bif_true (tt h3), e]
  rw [bif_false (ff h3), bif_false (bne_f h1)]
  by_cases h2 : ((readN src).2.1.length : Int) < (readN src).1
  ·have e : readBytes src = ([], [], 9) := by simp [readBytes, readLen_ok h1 h3, h1, h2]
   rw [bif_true (tt h2), e]
  ·have e : readBytes src = ((readN src).2.1.take (readN src).1.toNat, (readN src).2.1.drop (readN src).1.toNat, 0) := by simp [readBytes, readLen_ok h1 h3, h1, h2]
   rw [bif_false (ff h2), e, bif_true (tt2 (by omega) (by omega)), bif_true (c := clone_byte_P _) (tt (by simp; omega)), bif_true (tt2 (by omega) (by omega)), bif_true (c := clone_byte_P _) (tt (by simp; omega))]
   rfl
 ·have e : readBytes src = ([], [], (readN src).2.2) := by simp [readBytes, readLen_err h1, h1]
  rw [bif_false (beq_f h1), bif_true (bne_t h1), e]⟩
end Go.AI
