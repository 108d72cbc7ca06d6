/- Texts of the proof, joined: LogP3. -/
import Derived.Test.YtnmidfcefljafaaGreatQtLogP2
namespace Go.AI
open Go
theorem lPages_plain (n : Int) (_ : lPages_P n = true) : ∃ F, ∀ {X : Type} (fail : X) (ret : Int → X), lPages F n fail ret = ret (lPages_r n) := ⟨0, fun fail ret => by
 unfold lPages lPages_r pagesI
 by_cases c1 : n < 0
 ·rw [bif_true (tt c1), if_neg (by omega)]
 by_cases c2 : n > 65536
 ·rw [bif_false (ff c1), bif_true (tt c2), if_neg (by omega)]
 ·have hp : needed_P n = true := tt (by omega)
  rw [bif_false (ff c1), bif_false (ff c2), hp, cond_true, if_pos (by omega)]
  unfold needed_r needN
  rw [addI_eq (by omega) (by omega)]; congr 1⟩
theorem chkL_cases (l : LogT) : ((l.2.2.1 < 2 ∨ l.2.2.1 > 8192 ∨ l.1 < 1 ∨ l.1 > l.2.2.1) ∧ chkL l = 2) ∨ (¬ (l.2.2.1 < 2 ∨ l.2.2.1 > 8192 ∨ l.1 < 1 ∨ l.1 > l.2.2.1) ∧ (l.2.1 < 0 ∨ l.2.1 ≥ l.1) ∧ chkL l = 3) ∨ (¬ (l.2.2.1 < 2 ∨ l.2.2.1 > 8192 ∨ l.1 < 1 ∨ l.1 > l.2.2.1) ∧ ¬ (l.2.1 < 0 ∨ l.2.1 ≥ l.1) ∧ chkL l = 0) := by
 unfold chkL
 by_cases c1 : l.2.2.1 < 2 ∨ l.2.2.1 > 8192 ∨ l.1 < 1 ∨ l.1 > l.2.2.1
 ·exact .inl ⟨c1, if_pos c1⟩
 by_cases c2 : l.2.1 < 0 ∨ l.2.1 ≥ l.1
 ·exact .inr (.inl ⟨c1, c2, by rw [if_neg c1, if_pos c2]⟩)
 ·exact .inr (.inr ⟨c1, c2, by rw [if_neg c1, if_neg c2]⟩)
theorem lCheck_plain (l : LogT) : ∃ F, ∀ {X : Type} (fail : X) (ret : Int → X), lCheck F l fail ret = ret (lCheck_r l) := ⟨0, fun fail ret => by
 unfold lCheck lCheck_r
 rcases chkL_cases l with ⟨c, e⟩ | ⟨c, c2, e⟩ | ⟨c, c2, e⟩ <;> rw [e]
 ·by_cases c1 : l.2.2.1 < 2
  ·rw [bif_true (tt c1)]
  by_cases c2 : l.2.2.1 > 8192
  ·rw [bif_false (ff c1), bif_true (tt c2), bif_true (tt c2)]
  by_cases c3 : l.1 < 1
  ·rw [bif_false (ff c1), bif_false (ff c2), bif_true (tt c3)]
  ·rw [bif_false (ff c1), bif_false (ff c2), bif_false (ff c3), bif_true (tt (by omega))]
 all_goals rw [bif_false (ff (by omega)), bif_false (ff (by omega)), bif_false (ff (by omega)), bif_false (ff (by omega))]
 ·by_cases c3 : l.2.1 < 0
  ·rw [bif_true (tt c3)]
  ·rw [bif_false (ff c3), bif_true (tt (by omega))]
 ·rw [bif_false (ff (by omega)), bif_false (ff (by omega))]⟩
theorem lHead_plain (_ : lHead_P = true) : ∃ F, ∀ {X : Type} (fail : X) (ret : Page → X), lHead F fail ret = ret lHead_r := ⟨1, fun _ _ => rfl⟩
theorem lWrite_plain (a : Int) (ps : List Page) (_ : lWrite_P a ps = true) : ∃ F, ∀ {X : Type} (fail : X) (ret : DOp → X), lWrite F a ps fail ret = ret (lWrite_r a ps) := ⟨0, fun _ _ => rfl⟩
theorem lSync_plain (_ : lSync_P = true) : ∃ F, ∀ {X : Type} (fail : X) (ret : DOp → X), lSync F fail ret = ret lSync_r := ⟨0, fun _ _ => rfl⟩
theorem lFormat_plain (n : Int) (_ : lFormat_P n = true) : ∃ F, ∀ {X : Type} (fail : X) (ret : LogT → List DOp → Int → X), lFormat F n fail ret = ret (lFormat_r0 n) (lFormat_r1 n) (lFormat_r2 n) := ⟨0, fun fail ret => by
 unfold lFormat lFormat_r0 lFormat_r1 lFormat_r2 fmtL fmtO fmtE
 by_cases c1 : n < 2
 ·rw [bif_true (tt c1), if_neg (by omega), if_neg (by omega), if_neg (by omega)]; rfl
 by_cases c2 : n > 8192
 ·rw [bif_false (ff c1), bif_true (tt c2), if_neg (by omega), if_neg (by omega), if_neg (by omega)]; rfl
 ·rw [bif_false (ff c1), bif_false (ff c2), bif_true (by rw [Bool.and_true]; exact tt2 (by omega) (by unfold big; omega)), if_pos (by omega), if_pos (by omega), if_pos (by omega)]; rfl⟩
theorem datN_len : ∀ k b, (datN k b).length = k
 | 0, _ => rfl
 | k + 1, b => by simp [datN, datN_len k]
theorem dataPs_len (b : Bys) : (dataPs b).length = needN b.length := datN_len _ _
def datP (b : Bys) : Page := 1 :: (b.take 15 ++ List.replicate (15 - (b.take 15).length) 0)
theorem datN_snoc : ∀ (k : Nat) (b : Bys), datN (k + 1) b = datN k b ++ [datP (b.drop (15 * k))]
 | 0, b => rfl
 | k + 1, b => by
  show datP b :: datN (k + 1) (b.drop 15) = (datP b :: datN k (b.drop 15)) ++ _
  rw [datN_snoc k, List.drop_drop, show 15 + 15 * k = 15 * (k + 1) by omega]; rfl
theorem datP_len (b : Bys) : (datP b).length = 16 := by
 simp only [datP, List.length_cons, List.length_append, List.length_replicate, List.length_take]; omega
theorem chunk_page (x : Bys) (h : x.length ≤ 15) : ([1] : Page) ++ x.take (min x.length 15) ++ ([1, 0, 0, 0, 0, 0, 0, 0, 0, 0, 0, 0, 0, 0, 0, 0] : Page).drop (1 + min x.length 15) = 1 :: (x ++ List.replicate (15 - x.length) 0) := by
 have e : min x.length 15 = x.length := by omega
 rw [e, List.take_length]
 have e2 : ([1, 0, 0, 0, 0, 0, 0, 0, 0, 0, 0, 0, 0, 0, 0, 0] : Page) = 1 :: List.replicate 15 0 := rfl
 rw [e2, Nat.add_comm, List.drop_succ_cons, List.drop_replicate]; rfl
theorem lAppend_loop {X : Type} (F : Nat) (fail : X) (ex0 : Int → Bys → Int → Int → List Page → Bys → Int → LogT → LogT → X) (b : Bys) (s6 n : Int) (l s4 : LogT) (hb : b.length ≤ 65536) : ∀ (j m k : Nat), k + j = needN b.length → j ≤ m →
  ∃ w : Int, lAppend_l1F F fail ex0 (m + 1) ((15 * k : Nat) : Int) b s6 n (datN k b) b 15 l s4 = ex0 w b s6 n (dataPs b) b 15 l s4
 | 0, m, k, hk, _ => by
  obtain rfl : k = needN b.length := by omega
  refine ⟨((15 * needN b.length : Nat) : Int), ?_⟩
  rw [lAppend_l1F, lAppend_l1]
  rw [bif_false (ff (by unfold needN; omega))]; rfl
 | j + 1, 0, k, _, hm => absurd hm (by omega)
 | j + 1, m + 1, k, hk, hm => by
  obtain ⟨w, ih⟩ := lAppend_loop F fail ex0 b s6 n l s4 hb j m (k + 1) (by omega) (by omega)
  refine ⟨w, ?_⟩
  have hlt : 15 * k < b.length := by unfold needN at hk; omega
  have hnb : needN b.length ≤ 5000 := by unfold needN; omega
  have hmin : minI 15 ((b.drop (15 * k)).length : Int) = ((min 15 (b.length - 15 * k) : Nat) : Int) := by rw [minI_eq, List.length_drop]; omega
  rw [lAppend_l1F, lAppend_l1]
  rw [Int.toNat_natCast, hmin, addI_eq (b := ((min 15 (b.length - 15 * k) : Nat) : Int)) (by omega) (by omega)]
  rw [show (((15 * k : Nat) : Int) + ((min 15 (b.length - 15 * k) : Nat) : Int)) = ((15 * k + min 15 (b.length - 15 * k) : Nat) : Int) by omega, Int.toNat_natCast]
  have hx : (b.take (15 * k + min 15 (b.length - 15 * k))).drop (15 * k) = (b.drop (15 * k)).take 15 := by
   rw [List.drop_take, show 15 * k + min 15 (b.length - 15 * k) - 15 * k = min 15 (b.length - 15 * k) by omega]
   by_cases c : 15 ≤ b.length - 15 * k
   ·rw [show min 15 (b.length - 15 * k) = 15 by omega]
   ·rw [List.take_of_length_le (by rw [List.length_drop]; omega), List.take_of_length_le (by rw [List.length_drop]; omega)]
  rw [hx, chunk_page _ (by rw [List.length_take]; omega)]
  rw [bif_true (tt (by omega)), bif_true (tt2 (by omega) (by omega)), bif_true (by rw [tt2 (show (0 : Int) ≤ ((15 * k : Nat) : Int) by omega) (by omega), tt (by omega), beq_t rfl]; rfl), bif_true (le_big (by rw [List.length_append, datN_len, List.length_singleton]; omega)), addI_eq (by omega) (by omega), show (((15 * k : Nat) : Int) + 15) = ((15 * (k + 1) : Nat) : Int) by omega]
  rw [datN_snoc] at ih
  exact ih
theorem lAppend_plain (l : LogT) (b : Bys) (_ : lAppend_P l b = true) : ∃ F, ∀ {X : Type} (fail : X) (ret : LogT → List DOp → Int → X), lAppend F l b fail ret = ret (lAppend_r0 l b) (lAppend_r1 l b) (lAppend_r2 l b) := ⟨needN b.length + 1, fun fail ret => by
 unfold lAppend lAppend_r0 lAppend_r1 lAppend_r2 appL appO lCheck_r
 rcases chkL_cases l with ⟨c, e⟩ | ⟨c, c2, e⟩ | ⟨c, c2, e⟩
 ·have he : appE l b = 2 := by unfold appE; rw [if_neg (by omega)]; exact e
  rw [he, e]; rfl
 ·have he : appE l b = 3 := by unfold appE; rw [if_neg (by omega)]; exact e
  rw [he, e]; rfl
 rw [e, bif_false (c := (0 : Int) != 0) rfl, bif_true (c := lPages_P _) rfl]
 have he0 : appE l b = if b.length > 65536 then 5 else if l.2.2.1 - l.1 < needN b.length + 1 then 11 else 0 := if_pos e
 by_cases c3 : b.length > 65536
 ·have he : appE l b = 5 := he0.trans (if_pos c3)
  rw [bif_true (tt (by omega)), he]; rfl
 rw [bif_false (ff (by omega))]
 have hp : lPages_r (b.length : Int) = ((needN b.length + 1 : Nat) : Int) := if_pos (by omega)
 have hnb : needN b.length ≤ 5000 := by unfold needN; omega
 rw [hp, subI_eq (by omega) (by omega)]
 by_cases c4 : l.2.2.1 - l.1 < needN b.length + 1
 ·have he : appE l b = 11 := he0.trans ((if_neg c3).trans (if_pos c4))
  rw [bif_true (tt (by omega)), he]; rfl
 have he : appE l b = 0 := he0.trans ((if_neg c3).trans (if_neg c4))
 have hE : lEnd_P b (l.2.1 + 1) = true := tt (by omega)
 have ha1 : addI l.2.1 1 = l.2.1 + 1 := addI_eq (by omega) (by omega)
 have ha2 : addI l.1 ((needN b.length + 1 : Nat) : Int) = l.1 + needN b.length + 1 := by rw [addI_eq (by omega) (by omega)]; omega
 have ha3 : subI (l.1 + needN b.length + 1) 1 = l.1 + needN b.length := by rw [subI_eq (by omega) (by omega)]; omega
 rw [bif_false (ff (by omega)), he, if_pos rfl, if_pos rfl]
 unfold appK nextL
 by_cases c5 : b = []
 ·subst c5
  rw [bif_false (ff (by unfold needN; simp)), ha1, ha2, ha3, hE, if_pos rfl]; rfl
 ·have hpos : 0 < b.length := List.length_pos_iff.2 c5
  rw [bif_true (tt (by unfold needN; omega)), if_neg c5]
  obtain ⟨w, hw⟩ := lAppend_loop (needN b.length + 1) fail (fun _ p _ n parts _ _ l1 _ =>
    bif (lWrite_P l1.1 parts) then
    bif (lSync_P) then
    bif (lEnd_P p (addI l1.2.1 (1 : Int))) then
    bif (lWrite_P (subI (addI l1.1 n) (1 : Int)) ([(lEnd_r p (addI l1.2.1 (1 : Int)))] : List (List UInt8))) then
    bif (lSync_P) then
    ret ((addI l1.1 n), ((addI l1.2.1 (1 : Int)), (l1.2.2.1, ()))) ([(lWrite_r l1.1 parts), (lSync_r), (lWrite_r (subI (addI l1.1 n) (1 : Int)) ([(lEnd_r p (addI l1.2.1 (1 : Int)))] : List (List UInt8))), (lSync_r)] : List (Int × (Int × ((List (List UInt8)) × Unit)))) (0 : Int)
    else fail
    else fail
    else fail
    else fail
    else fail) b 0 ((needN b.length + 1 : Nat) : Int) l log0 (by omega) (needN b.length) (needN b.length) 0 (by omega) (by omega)
  refine hw.trans ?_
  simp only [ha1, ha2, ha3]
  rw [hE]; rfl⟩
end Go.AI
