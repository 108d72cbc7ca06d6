/- Texts of the proof, joined: LogP5. -/
import Derived.Test.YtcdajbmgoafnkaaGreatQcLogP4
namespace Go.AI
open Go
theorem datN_nil : ∀ k, datN k [] = List.replicate k (datP [])
 | 0 => rfl
 | k + 1 => by show datP [] :: datN k [] = _; rw [datN_nil k]; rfl
theorem qData_loop1 {X : Type} (F : Nat) (fail : X) (ex0 : Bys → Int → List Page → X) (b : Bys) (k : Nat) (hk : k ≤ 1000000) : ∀ (j m i : Nat), i + j = k → j ≤ m →
  qData_l1F F fail ex0 (m + 1) b i (List.replicate i (datP []) ++ List.replicate (k - i) z16) = ex0 b (k : Int) (datN k [])
 | 0, m, i, hi, _ => by
  obtain rfl : i = k := by omega
  rw [qData_l1F, qData_l1]
  rw [bif_false (ff (by simp)), datN_nil, Nat.sub_self, List.replicate_zero, List.append_nil]
 | j + 1, 0, i, _, hm => absurd hm (by omega)
 | j + 1, m + 1, i, hi, hm => by
  have ih := qData_loop1 F fail ex0 b k hk j m (i + 1) (by omega) (by omega)
  have hl : (List.replicate i (datP []) ++ List.replicate (k - i) z16).length = k := by simp; omega
  rw [qData_l1F, qData_l1]
  rw [hl, Int.toNat_natCast, bif_true (tt (by omega)), bif_true (tt2 (by omega) (by omega)), addI_eq (by omega) (by omega), nat1]
  have hg : (List.replicate i (datP []) ++ List.replicate (k - i) z16).getD i z16 = z16 := by
   rw [List.getD, List.getElem?_append_right (by simp), List.length_replicate, Nat.sub_self, show k - i = (k - (i + 1)) + 1 by omega]; rfl
  have hs : (List.replicate i (datP []) ++ List.replicate (k - i) z16).set i (z16.set 0 1) = List.replicate (i + 1) (datP []) ++ List.replicate (k - (i + 1)) z16 := by
   rw [List.set_append_right _ _ (by simp), List.length_replicate, Nat.sub_self, show k - i = (k - (i + 1)) + 1 by omega, List.replicate_succ, List.set_cons_zero, show z16.set 0 1 = datP [] from rfl, List.replicate_succ', List.append_assoc]; rfl
  rw [hg, hs]
  exact ih
theorem datP_snoc (x : Bys) (y : UInt8) (h : x.length < 15) : (datP x).set (1 + x.length) y = datP (x ++ [y]) := by
 unfold datP
 rw [List.take_of_length_le (by omega), List.take_of_length_le (by rw [List.length_append, List.length_singleton]; omega), Nat.add_comm, List.set_cons_succ, List.set_append_right _ _ (Nat.le_refl _), Nat.sub_self, List.length_append, List.length_singleton, show 15 - x.length = (15 - (x.length + 1)) + 1 by omega, List.replicate_succ, List.set_cons_zero, List.append_assoc]; rfl
theorem datN_step (k : Nat) (b : Bys) (i : Nat) (hi : i < b.length) : (datN k (b.take i)).set (i / 15) (((datN k (b.take i)).getD (i / 15) z16).set (1 + i % 15) (b.getD i 0)) = datN k (b.take (i + 1)) := by
 apply List.ext_getElem
 ·rw [List.length_set, datN_len, datN_len]
 intro q h1 h2
 rw [List.length_set, datN_len] at h1
 have g : ∀ c : Bys, (hq : q < (datN k c).length) → (datN k c)[q] = datP (c.drop (15 * q)) := fun c hq => by rw [← getD_lt (d := z16) hq, datN_get k c q h1]
 rw [g, List.getElem_set]
 by_cases e : i / 15 = q
 ·subst e
  rw [if_pos rfl, datN_get k _ _ h1]
  have hd : ((b.take i).drop (15 * (i / 15))).length = i % 15 := by rw [List.length_drop, List.length_take]; omega
  rw [← hd, datP_snoc _ _ (by rw [hd]; omega), take_snoc b i 0 hi, List.drop_append_of_le_length (by rw [List.length_take]; omega)]
 ·rw [if_neg e, g]
  unfold datP
  have e2 : ((b.take (i + 1)).drop (15 * q)).take 15 = ((b.take i).drop (15 * q)).take 15 := by
   rw [List.drop_take, List.drop_take, List.take_take, List.take_take]
   by_cases c : 15 * q + 15 ≤ i
   ·rw [show min 15 (i + 1 - 15 * q) = min 15 (i - 15 * q) by omega]
   ·rw [show i + 1 - 15 * q = 0 by omega, show i - 15 * q = 0 by omega]
  rw [e2]
theorem qData_loop2 {X : Type} (F : Nat) (fail : X) (ex0 : Bys → Int → List Page → X) (b : Bys) (k : Nat) (hb : b.length ≤ 1000000) (hk : b.length ≤ 15 * k) : ∀ (j m i : Nat), i + j = b.length → j ≤ m →
  qData_l2F F fail ex0 (m + 1) b i (datN k (b.take i)) = ex0 b (b.length : Nat) (datN k b)
 | 0, m, i, hi, _ => by
  obtain rfl : i = b.length := by omega
  rw [qData_l2F, qData_l2]
  rw [bif_false (ff (by omega)), List.take_length]
 | j + 1, 0, i, _, hm => absurd hm (by omega)
 | j + 1, m + 1, i, hi, hm => by
  have ih := qData_loop2 F fail ex0 b k hb hk j m (i + 1) (by omega) (by omega)
  have e1 : quoI (i : Int) 15 = ((i / 15 : Nat) : Int) := by rw [quoI_eq (by omega) (by omega) (by omega)]; omega
  have e2 : addI 1 (remI (i : Int) 15) = ((1 + i % 15 : Nat) : Int) := by rw [remI_eq (by omega), addI_eq (by omega) (by omega)]; omega
  rw [qData_l2F, qData_l2]
  rw [e1, e2, Int.toNat_natCast, Int.toNat_natCast, Int.toNat_natCast, datN_len, bif_true (tt (by omega)), bif_true (tt2 (by omega) (by omega)), bif_true (tt2 (by omega) (by omega)), bif_true (tt2 (by omega) (by omega)), addI_eq (by omega) (by omega), nat1, datN_step k b i (by omega)]
  exact ih
theorem qData_plain (b : Bys) (h : qData_P b = true) : ∃ F, ∀ {X : Type} (fail : X) (ret : List Page → X), qData F b fail ret = ret (qData_r b) := ⟨b.length + 1, fun fail ret => by
 simp only [qData_P, decide_eq_true_eq] at h
 have hp : qDataPages_P (b.length : Int) = true := tt (by omega)
 have hn : qDataPages_r (b.length : Int) = ((needN b.length : Nat) : Int) := rfl
 have hnb : needN b.length ≤ b.length ∧ b.length ≤ 15 * needN b.length := by unfold needN; omega
 unfold qData qData_r dataPs
 rw [hp, cond_true, hn, bif_true (by rw [Bool.and_true]; exact tt2 (by omega) (by unfold big; omega)), Int.toNat_natCast]
 refine (qData_loop1 (b.length + 1) fail _ b (needN b.length) (by omega) (needN b.length) b.length 0 (by omega) (by omega)).trans ?_
 exact qData_loop2 (b.length + 1) fail (fun _ _ o => ret o) b (needN b.length) (by omega) (by omega) b.length b.length 0 (by omega) (by omega)⟩
theorem qAppend_plain (l : LogT) (b : Bys) (_ : qAppend_P l b = true) : ∃ F, ∀ {X : Type} (fail : X) (ret : LogT → List DOp → Int → X), qAppend F l b fail ret = ret (qAppend_r0 l b) (qAppend_r1 l b) (qAppend_r2 l b) := ⟨0, fun fail ret => by
 unfold qAppend qAppend_r0 qAppend_r1 qAppend_r2 appL appO qLCheck_r
 rcases chkL_cases l with ⟨c, e⟩ | ⟨c, c2, e⟩ | ⟨c, c2, e⟩
 ·have he : appE l b = 2 := by unfold appE; rw [if_neg (by omega)]; exact e
  rw [he, e]; rfl
 ·have he : appE l b = 3 := by unfold appE; rw [if_neg (by omega)]; exact e
  rw [he, e]; rfl
 rw [e, bif_false (c := (0 : Int) != 0) rfl]
 have he0 : appE l b = if b.length > 65536 then 5 else if l.2.2.1 - l.1 < needN b.length + 1 then 11 else 0 := if_pos e
 by_cases c3 : b.length > 65536
 ·have he : appE l b = 5 := he0.trans (if_pos c3)
  rw [bif_true (tt (by omega)), he]; rfl
 rw [bif_false (ff (by omega)), bif_true (c := qPages_P _) rfl]
 have hp : qPages_r (b.length : Int) = ((needN b.length + 1 : Nat) : Int) := if_pos (by omega)
 have hnb : needN b.length ≤ 5000 := by unfold needN; omega
 have ha2 : addI l.1 ((needN b.length + 1 : Nat) : Int) = l.1 + needN b.length + 1 := by rw [addI_eq (by omega) (by omega)]; omega
 rw [hp, ha2]
 by_cases c4 : l.2.2.1 - l.1 < needN b.length + 1
 ·have he : appE l b = 11 := he0.trans ((if_neg c3).trans (if_pos c4))
  rw [bif_true (tt (by omega)), he]; rfl
 have he : appE l b = 0 := he0.trans ((if_neg c3).trans (if_neg c4))
 have hE : qCommit_P b (l.2.1 + 1) = true := tt (by omega)
 have hD : qData_P b = true := tt (by omega)
 have ha1 : addI l.2.1 1 = l.2.1 + 1 := addI_eq (by omega) (by omega)
 have ha3 : subI (l.1 + needN b.length + 1) 1 = l.1 + needN b.length := by rw [subI_eq (by omega) (by omega)]; omega
 rw [bif_false (ff (by omega)), he, if_pos rfl, if_pos rfl, ha1, ha3, hE, hD]
 unfold appK nextL
 by_cases c5 : b = []
 ·subst c5
  rw [bif_false (ff (by unfold needN; simp)), if_pos rfl]; rfl
 ·have hpos : 0 < b.length := List.length_pos_iff.2 c5
  rw [bif_true (tt (by unfold needN; omega)), if_neg c5]; rfl⟩
end Go.AI
