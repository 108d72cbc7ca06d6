/- Texts of the proof, joined: TransP3. -/
import Derived.Test.YtcdajbmgoafnkaaQeG
import Derived.Test.YtcdajbmgoafnkaaQeTransP2
namespace Go.AI
open Go
theorem decG_len : ∀ (n : Nat) (b : List UInt8) (out : List Rec), (decG n b out).1.length ≤ out.length + n
 | 0, b, out => by
  rw [decG]
  split
  ·exact Nat.le_refl _
  ·exact Nat.zero_le _
 | n + 1, b, out => by
  rw [decG]
  split
  ·exact Nat.zero_le _
  split
  ·split
   ·exact Nat.zero_le _
   ·have := decG_len n (readBytes (readN b).2.1).2.1 (out ++ [((readN b).1, ((readBytes (readN b).2.1).1, ()))])
    rw [List.length_append, List.length_singleton] at this; omega
  ·exact Nat.zero_le _
theorem dec_len (b : List UInt8) : (decR b).1.length ≤ 1024 := by
 unfold decR
 split
 ·exact Nat.zero_le _
 split
 ·exact Nat.zero_le _
 split
 ·exact Nat.zero_le _
 ·have := decG_len (readN b).1.toNat (readN b).2.1 []
  rw [List.length_nil] at this; omega
theorem few_len {l : List Rec} (h : fewR l = true) : l.length ≤ 60 := by
 unfold fewR at h
 rw [Bool.and_eq_true, decide_eq_true_eq] at h
 exact h.2
theorem sam_len {l : List Rec} (h : l.length ≤ 1024) : samP l = true := tt (by omega)
theorem sam_and {a b : List Rec} (ha : samP a = true) (hb : samP b = true) : (samP a && samP b) = true := by rw [ha, hb]; rfl
def TransactionEncodes_P (_ : List Rec) (_ : List UInt8) : Bool := true
def TransactionEncodes_r (_ : List Rec) (_ : List UInt8) : Bool := true
def TransactionReturns_P (_ : List Rec) (_ : List UInt8) : Bool := true
def TransactionReturns_r (_ : List Rec) (_ : List UInt8) : Bool := true
theorem TransactionEncodes_plain (l : List Rec) (b : List UInt8) (_ : TransactionEncodes_P l b = true) : ∃ F, ∀ {X : Type} (fail : X) (ret : Bool → X), TransactionEncodes F l b fail ret = ret (TransactionEncodes_r l b) := ⟨0, fun fail ret => by
 unfold TransactionEncodes
 refine bif_eqt rfl ?_
 by_cases c : (!uFew_r l) = true
 ·exact bif_eqt c rfl
 refine bif_eqf (by simpa using c) ?_
 by_cases c2 : (b.length : Int) > 2000
 ·exact bif_eqt (tt c2) rfl
 refine bif_eqf (ff c2) (bif_eqt rfl (bif_eqt rfl (bif_eqt rfl (bif_eqt rfl (bif_eqt rfl (bif_eqt rfl (bif_eqt rfl ?_)))))))
 refine bif_eqt (show (chkR l == chkR l) = true from beq_t rfl) (bif_eqt (show (encV l == encV l) = true from beq_iff_eq.2 rfl) (bif_eqt (show (encE l == encE l) = true from beq_t rfl) (bif_eqt (sam_and (sam_len (dec_len b)) (sam_len (dec_len b))) (bif_eqt (show decide ((decR b).1 = (decR b).1) = true from tt rfl) (congrArg ret (show ((decR b).2 == (decR b).2) = true from beq_t rfl))))))⟩
theorem ret_tail {X : Type} (b : List UInt8) (fail : X) (ret : Bool → X) : (bif (tDecode_r1 b != 0) then bif law50_awake_r then ret (((tDecode_r0 b).length : Int) == 0) else ret false
  else bif tEncode_P (tDecode_r0 b) then bif law50_awake_r then bif (tEncode_r1 (tDecode_r0 b) == 0) then bif (tEncode_r0 (tDecode_r0 b) == b) then bif tCheck_P (tDecode_r0 b) then ret (tCheck_r (tDecode_r0 b) == 0) else fail else ret false else ret false else ret false else fail) = ret true := by
 rw [show tDecode_r1 b = (decR b).2 from rfl, show tDecode_r0 b = (decR b).1 from rfl]
 by_cases c : (decR b).2 = 0
 ·obtain ⟨h1, h2, h3⟩ := enc_dec c
  have e : encE (decR b).1 = 0 := by unfold encE; rw [if_pos h1, h2, if_neg (by omega)]
  refine bif_eqf (bne_f c) (bif_eqt rfl (bif_eqt rfl (bif_eqt (show (encE (decR b).1 == 0) = true from beq_t e) (bif_eqt (show (encV (decR b).1 == b) = true by rw [encV_eq e, h2]; exact beq_iff_eq.2 rfl) (bif_eqt rfl (congrArg ret (show (chkR (decR b).1 == 0) = true from beq_t h1)))))))
 ·refine bif_eqt (bne_t c) (bif_eqt rfl (congrArg ret ?_))
  rw [dec_nil c]; rfl
theorem TransactionReturns_plain (l : List Rec) (b : List UInt8) (_ : TransactionReturns_P l b = true) : ∃ F, ∀ {X : Type} (fail : X) (ret : Bool → X), TransactionReturns F l b fail ret = ret (TransactionReturns_r l b) := ⟨0, fun fail ret => by
 unfold TransactionReturns
 refine bif_eqt rfl ?_
 cases cf : fewR l with
 | false => exact bif_eqt (show (!fewR l) = true by rw [cf]; rfl) rfl
 | true =>
 refine bif_eqf (show (!fewR l) = false by rw [cf]; rfl) ?_
 by_cases c2 : (b.length : Int) > 2000
 ·exact bif_eqt (tt c2) rfl
 refine bif_eqf (ff c2) (bif_eqt rfl ?_)
 have hb := ret_tail b fail ret
 by_cases c3 : encE l = 0
 ·have hc : chkR l = 0 ∧ (encR l).length ≤ 65536 := by
   unfold encE at c3
   by_cases k : chkR l = 0
   ·rw [if_pos k] at c3
    by_cases k2 : (encR l).length > 65536
    ·rw [if_pos k2] at c3; cases c3
    ·exact ⟨k, by omega⟩
   ·rw [if_neg k] at c3; exact absurd c3 k
  have hd : decR (encV l) = (l, 0) := by rw [encV_eq c3]; exact dec_enc hc.1 hc.2
  refine bif_eqt (show (encE l == 0) = true from beq_t c3) (bif_eqt rfl ?_)
  refine bif_eqf (show ((decR (encV l)).2 != 0) = false by rw [hd]; rfl) ?_
  refine bif_eqt (show (samP l && samP (decR (encV l)).1) = true from sam_and (sam_len (by have := few_len cf; omega)) (sam_len (dec_len _))) ?_
  refine bif_eqf (show (!decide (l = (decR (encV l)).1)) = false by rw [hd]; simp) ?_
  exact bif_eqt rfl hb
 ·exact bif_eqf (show (encE l == 0) = false from beq_f c3) (bif_eqt rfl hb)⟩
end Go.AI
