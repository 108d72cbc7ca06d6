/- Texts of the proof, joined: CipherP2. -/
import Derived.Test.YtnmidfcefljafaaGreatQtCipherP
namespace Go.AI
open Go
theorem rol32_ok {x : UInt32} {k : Nat} (h : k = 7 ∨ k = 8 ∨ k = 12 ∨ k = 16) : rol32_P x (k : Int) = true := by
 rcases h with rfl | rfl | rfl | rfl <;> rfl
abbrev QT := List (Int × Int × Int × Int × Unit)
theorem q3_step {X : Type} (F : Nat) (fail : X) (ex : QT → Int → Int → Int → List UInt32 → List UInt32 → X) (s30 : QT) (p q : Int) (w w1 : List UInt32) (m j t f o k : Nat)
  (hs : s30.getD j (0, 0, 0, 0, ()) = ((t : Int), (f : Int), (o : Int), (k : Int), ())) (hj : j < 4) (ht : t < 16) (hf : f < 16) (ho : o < 16) (hk : k = 7 ∨ k = 8 ∨ k = 12 ∨ k = 16) :
  cBlk_l3F F fail ex (m + 1) s30 j p q w w1 = cBlk_l3F F fail ex m s30 (j + 1 : Nat) p q (stp w t f o k) w1 := by
 rw [cBlk_l3F, cBlk_l3, Int.toNat_natCast, hs]
 simp only [Int.toNat_natCast]
 rw [bif_true (tt (by omega)), bif_true (tt2 (by omega) (by omega)), bif_true (tt2 (by omega) (by omega)), bif_true (tt2 (by omega) (by omega)), bif_true (tt2 (by omega) (by omega)), bif_true (tt2 (by omega) (by omega)), bif_true (tt2 (by omega) (by omega)), bif_true (rol32_ok hk), bif_true (tt2 (by omega) (by omega)), addI_eq (by omega) (by omega)]
 rfl
theorem q3 {X : Type} (F : Nat) (fail : X) (ex : QT → Int → Int → Int → List UInt32 → List UInt32 → X) (p q : Int) (w w1 : List UInt32) (m a b c d : Nat) (ha : a < 16) (hb : b < 16) (hc : c < 16) (hd : d < 16) :
  ∃ s30 j, cBlk_l3F F fail ex (m + 5) [((a : Int), (b : Int), (d : Int), 16, ()), ((c : Int), (d : Int), (b : Int), 12, ()), ((a : Int), (b : Int), (d : Int), 8, ()), ((c : Int), (d : Int), (b : Int), 7, ())] 0 p q w w1 = ex s30 j p q (qrt w a b c d) w1 := by
 refine ⟨[((a : Int), (b : Int), (d : Int), 16, ()), ((c : Int), (d : Int), (b : Int), 12, ()), ((a : Int), (b : Int), (d : Int), 8, ()), ((c : Int), (d : Int), (b : Int), 7, ())], (4 : Nat), ?_⟩
 show cBlk_l3F F fail ex (m + 5) _ ((0 : Nat) : Int) p q w w1 = _
 rw [q3_step F fail ex _ p q w w1 _ 0 a b d 16 rfl (by omega) ha hb hd (by omega), q3_step F fail ex _ p q _ w1 _ 1 c d b 12 rfl (by omega) hc hd hb (by omega), q3_step F fail ex _ p q _ w1 _ 2 a b d 8 rfl (by omega) ha hb hd (by omega), q3_step F fail ex _ p q _ w1 _ 3 c d b 7 rfl (by omega) hc hd hb (by omega)]
 rw [cBlk_l3F, cBlk_l3]
 rw [bif_false (ff (by omega))]
 rfl
theorem q5_step {X : Type} (F : Nat) (fail : X) (ex : QT → Int → Int → Int → List UInt32 → List UInt32 → X) (s30 : QT) (p q : Int) (w w1 : List UInt32) (m j t f o k : Nat)
  (hs : s30.getD j (0, 0, 0, 0, ()) = ((t : Int), (f : Int), (o : Int), (k : Int), ())) (hj : j < 4) (ht : t < 16) (hf : f < 16) (ho : o < 16) (hk : k = 7 ∨ k = 8 ∨ k = 12 ∨ k = 16) :
  cBlk_l5F F fail ex (m + 1) s30 j p q w w1 = cBlk_l5F F fail ex m s30 (j + 1 : Nat) p q (stp w t f o k) w1 := by
 rw [cBlk_l5F, cBlk_l5, Int.toNat_natCast, hs]
 simp only [Int.toNat_natCast]
 rw [bif_true (tt (by omega)), bif_true (tt2 (by omega) (by omega)), bif_true (tt2 (by omega) (by omega)), bif_true (tt2 (by omega) (by omega)), bif_true (tt2 (by omega) (by omega)), bif_true (tt2 (by omega) (by omega)), bif_true (tt2 (by omega) (by omega)), bif_true (rol32_ok hk), bif_true (tt2 (by omega) (by omega)), addI_eq (by omega) (by omega)]
 rfl
theorem q5 {X : Type} (F : Nat) (fail : X) (ex : QT → Int → Int → Int → List UInt32 → List UInt32 → X) (p q : Int) (w w1 : List UInt32) (m a b c d : Nat) (ha : a < 16) (hb : b < 16) (hc : c < 16) (hd : d < 16) :
  ∃ s30 j, cBlk_l5F F fail ex (m + 5) [((a : Int), (b : Int), (d : Int), 16, ()), ((c : Int), (d : Int), (b : Int), 12, ()), ((a : Int), (b : Int), (d : Int), 8, ()), ((c : Int), (d : Int), (b : Int), 7, ())] 0 p q w w1 = ex s30 j p q (qrt w a b c d) w1 := by
 refine ⟨[((a : Int), (b : Int), (d : Int), 16, ()), ((c : Int), (d : Int), (b : Int), 12, ()), ((a : Int), (b : Int), (d : Int), 8, ()), ((c : Int), (d : Int), (b : Int), 7, ())], (4 : Nat), ?_⟩
 show cBlk_l5F F fail ex (m + 5) _ ((0 : Nat) : Int) p q w w1 = _
 rw [q5_step F fail ex _ p q w w1 _ 0 a b d 16 rfl (by omega) ha hb hd (by omega), q5_step F fail ex _ p q _ w1 _ 1 c d b 12 rfl (by omega) hc hd hb (by omega), q5_step F fail ex _ p q _ w1 _ 2 a b d 8 rfl (by omega) ha hb hd (by omega), q5_step F fail ex _ p q _ w1 _ 3 c d b 7 rfl (by omega) hc hd hb (by omega)]
 rw [cBlk_l5F, cBlk_l5]
 rw [bif_false (ff (by omega))]
 rfl
theorem add4 (c i : Nat) (a : Int) (ha : a = c) (h : c ≤ 16) (hi : i < 16) : addI a (i : Int) = ((c + i : Nat) : Int) := by
 subst ha
 rw [addI_eq (by omega) (by omega)]; omega
theorem rem4 (i c : Nat) (a : Int) (ha : a = c) (h : c ≤ 16) (hi : i < 16) : remI (addI (i : Int) a) 4 = (((i + c) % 4 : Nat) : Int) := by
 subst ha
 rw [addI_eq (by omega) (by omega), remI_eq (by omega)]; omega
theorem blk_l2 {X : Type} (fail : X) (ex : Int → Int → List UInt32 → List UInt32 → X) (p : Int) (v w : List UInt32) : ∀ (j m i : Nat), i + j = 4 → j ≤ m →
  cBlk_l2F 99 fail ex (m + 1) p i (colR v i) w = ex p (4 : Nat) (colR v 4) w
 | 0, m, i, hi, _ => by
  have e : i = 4 := by omega
  subst e
  rw [cBlk_l2F, cBlk_l2]
  rw [bif_false (ff (by omega))]
 | j + 1, 0, i, _, hm => absurd hm (by omega)
 | j + 1, m + 1, i, hi, hm => by
  have ih := blk_l2 fail ex p v w j m (i + 1) (by omega) (by omega)
  obtain ⟨s, k, e⟩ := q3 99 fail (fun (_ : QT) (_ : Int) (s71 : Int) (s91 : Int) (w1 : List UInt32) (w2 : List UInt32) => cBlk_l2F 99 fail ex (m + 1) s71 (addI s91 (1 : Int)) w1 w2) p i (colR v i) w 94 i (4 + i) (8 + i) (12 + i) (by omega) (by omega) (by omega) (by omega)
  rw [cBlk_l2F, cBlk_l2]
  rw [bif_true (tt (by omega)), add4 4 i 4 rfl (by omega) (by omega), add4 8 i 8 rfl (by omega) (by omega), add4 12 i 12 rfl (by omega) (by omega)]
  refine e.trans ?_
  rw [addI_eq (by omega) (by omega)]
  exact ih
theorem blk_l4 {X : Type} (fail : X) (ex : Int → Int → List UInt32 → List UInt32 → X) (p : Int) (v w : List UInt32) : ∀ (j m i : Nat), i + j = 4 → j ≤ m →
  cBlk_l4F 99 fail ex (m + 1) p i (diaR v i) w = ex p (4 : Nat) (diaR v 4) w
 | 0, m, i, hi, _ => by
  have e : i = 4 := by omega
  subst e
  rw [cBlk_l4F, cBlk_l4]
  rw [bif_false (ff (by omega))]
 | j + 1, 0, i, _, hm => absurd hm (by omega)
 | j + 1, m + 1, i, hi, hm => by
  have ih := blk_l4 fail ex p v w j m (i + 1) (by omega) (by omega)
  obtain ⟨s, k, e⟩ := q5 99 fail (fun (_ : QT) (_ : Int) (s71 : Int) (s91 : Int) (w1 : List UInt32) (w2 : List UInt32) => cBlk_l4F 99 fail ex (m + 1) s71 (addI s91 (1 : Int)) w1 w2) p i (diaR v i) w 94 i (4 + (i + 1) % 4) (8 + (i + 2) % 4) (12 + (i + 3) % 4) (by omega) (by omega) (by omega) (by omega)
  rw [cBlk_l4F, cBlk_l4]
  rw [bif_true (tt (by omega)), rem4 i 1 1 rfl (by omega) (by omega), rem4 i 2 2 rfl (by omega) (by omega), rem4 i 3 3 rfl (by omega) (by omega), add4 4 ((i + 1) % 4) 4 rfl (by omega) (by omega), add4 8 ((i + 2) % 4) 8 rfl (by omega) (by omega), add4 12 ((i + 3) % 4) 12 rfl (by omega) (by omega)]
  refine e.trans ?_
  rw [addI_eq (by omega) (by omega)]
  exact ih
theorem blk_l1 {X : Type} (fail : X) (ex : Int → List UInt32 → List UInt32 → X) (v w : List UInt32) : ∀ (j m i : Nat), i + j = 10 → j ≤ m →
  cBlk_l1F 99 fail ex (m + 1) i (mixR v i) w = ex (10 : Nat) (mixR v 10) w
 | 0, m, i, hi, _ => by
  have e : i = 10 := by omega
  subst e
  rw [cBlk_l1F, cBlk_l1]
  rw [bif_false (ff (by omega))]
 | j + 1, 0, i, _, hm => absurd hm (by omega)
 | j + 1, m + 1, i, hi, hm => by
  have ih := blk_l1 fail ex v w j m (i + 1) (by omega) (by omega)
  rw [cBlk_l1F, cBlk_l1]
  rw [bif_true (tt (by omega))]
  refine (blk_l2 fail _ i (mixR v i) w 4 98 0 rfl (by omega)).trans ?_
  refine (blk_l4 fail _ i (colR (mixR v i) 4) w 4 98 0 rfl (by omega)).trans ?_
  rw [addI_eq (by omega) (by omega)]
  exact ih
theorem outTo_succ (m w : List UInt32) (n : Nat) : outTo m w (n + 1) = outTo m w n ++ le4 (addW (m.getD n 0) (w.getD n 0)) := by
 unfold outTo
 rw [List.range_succ, List.flatMap_append]
 simp
theorem outTo_len (m w : List UInt32) : ∀ n, (outTo m w n).length = 4 * n
 | 0 => rfl
 | n + 1 => by
  rw [outTo_succ, List.length_append, outTo_len m w n]
  show 4 * n + 4 = _
  omega
theorem blk_l6 {X : Type} (fail : X) (ex : List UInt32 → Int → List UInt32 → List UInt8 → X) (v w : List UInt32) : ∀ (j m i : Nat), i + j = 16 → j ≤ m →
  cBlk_l6F 99 fail ex (m + 1) v i w (outTo v w i) = ex v (16 : Nat) w (outTo v w 16)
 | 0, m, i, hi, _ => by
  have e : i = 16 := by omega
  subst e
  rw [cBlk_l6F, cBlk_l6]
  rw [bif_false (ff (by omega))]
 | j + 1, 0, i, _, hm => absurd hm (by omega)
 | j + 1, m + 1, i, hi, hm => by
  have ih := blk_l6 fail ex v w j m (i + 1) (by omega) (by omega)
  have hl := outTo_len v w (i + 1)
  rw [cBlk_l6F, cBlk_l6]
  have es := outTo_succ v w i
  unfold le4 at es
  simp only [Int.toNat_natCast, ← es]
  rw [bif_true (tt (by omega)), bif_true (tt2 (by omega) (by omega)), bif_true (tt2 (by omega) (by omega)), bif_true (le_big (by omega)), addI_eq (by omega) (by omega)]
  exact ih
theorem cBlk_plain (key : List UInt8) (nonce counter : Int) (h : cBlk_P key nonce counter = true) : ∃ F, ∀ {X : Type} (fail : X) (ret : List UInt8 → X), cBlk F key nonce counter fail ret = ret (cBlk_r key nonce counter) := ⟨99, fun fail ret => by
 unfold cBlk
 rw [bif_true (c := cFirst_P key nonce counter) h]
 refine (blk_l1 fail _ _ _ 10 98 0 rfl (by omega)).trans ?_
 exact blk_l6 fail _ _ _ 16 98 0 rfl (by omega)⟩
theorem blkS_len (key : List UInt8) (nonce counter : Int) : (blkS key nonce counter).length = 64 := outTo_len _ _ 16
theorem cRange_plain (n : Int) : ∃ F, ∀ {X : Type} (fail : X) (ret : Bool → X), cRange F n fail ret = ret (cRange_r n) := ⟨1, fun fail ret => by
 unfold cRange cRange_r inR
 by_cases h : n ≥ 0
 ·rw [bif_true (tt h)]; congr 1
  by_cases k : n ≤ 9007199254740991
  ·rw [tt k, tt ⟨h, k⟩]
  ·rw [ff k, ff (fun x => k x.2)]
 ·rw [bif_false (ff h), ff (fun x => h x.1)]⟩
end Go.AI
