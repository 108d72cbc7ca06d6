/- Texts of the proof, joined: WireP2. -/
import Derived.Test.YtcdajbmgoafnkaaGreatQcG
import Derived.Test.YtcdajbmgoafnkaaGreatQcWireP
namespace Go.AI
open Go
theorem putBytes_loop {X : Type} (F : Nat) (fail : X) (ex0 : List UInt8 → Int → Int → List UInt8 → X) (b dst : List UInt8) (hb : dst.length + b.length ≤ 2147483648) : ∀ (j m i : Nat), i + j = b.length → j < m →
  wire_PutBytes_l1F F fail ex0 m b (b.length : Nat) i (dst ++ b.take i) = ex0 b (b.length : Nat) (b.length : Nat) (dst ++ b)
 | 0, m + 1, i, h1, h2 => by
  simp only [wire_PutBytes_l1F, wire_PutBytes_l1]
  have e : i = b.length := by omega
  subst e
  rw [bif_false (ff (by omega)), List.take_length]
 | j + 1, m + 1, i, h1, h2 => by
  simp only [wire_PutBytes_l1F, wire_PutBytes_l1]
  rw [bif_true (tt (by omega)), bif_true (tt2 (by omega) (by omega)), Int.toNat_natCast, List.append_assoc, ← take_snoc b i 0 (by omega), bif_true (le_big (by simp; omega)), addI_eq (by omega) (by omega)]
  exact putBytes_loop F fail ex0 b dst hb j m (i + 1) (by omega) (by omega)
theorem wire_PutBytes_plain (dst b : List UInt8) (h : wire_PutBytes_P dst b = true) : ∃ F, ∀ {X : Type} (fail : X) (ret : List UInt8 → X), wire_PutBytes F dst b fail ret = ret (wire_PutBytes_r dst b) := ⟨b.length + 1, fun fail ret => by
 simp only [wire_PutBytes_P, decide_eq_true_eq] at h
 have hl := encN_length (numOf b.length)
 unfold wire_PutBytes
 rw [bif_true (c := clone_byte_P _) (tt (by omega)), bif_true (c := wire_put_P _ _) (tt ⟨by unfold clone_byte_r; omega, by omega, by omega⟩)]
 have := putBytes_loop (b.length + 1) fail (fun (s14 : List UInt8) (s15 : Int) (s16 : Int) (dst1 : List UInt8) => ret dst1) b (dst ++ encN (numOf b.length)) (by simp; omega) b.length (b.length + 1) 0 (by omega) (by omega)
 rw [List.take_zero, List.append_nil] at this
 exact this⟩
theorem ref02_PutBytes_plain (dst b : List UInt8) (h : ref02_PutBytes_P dst b = true) : ∃ F, ∀ {X : Type} (fail : X) (ret : List UInt8 → X), ref02_PutBytes F dst b fail ret = ret (ref02_PutBytes_r dst b) := ⟨0, fun fail ret => by
 simp only [ref02_PutBytes_P, decide_eq_true_eq] at h
 have hl := encN_length (numOf b.length)
 unfold ref02_PutBytes
 rw [bif_true (c := ref02_PutInt_P _ _) (tt ⟨by omega, by omega, by omega⟩), bif_true (le_big (by simp [ref02_PutInt_r]; omega))]
 rfl⟩
end Go.AI
