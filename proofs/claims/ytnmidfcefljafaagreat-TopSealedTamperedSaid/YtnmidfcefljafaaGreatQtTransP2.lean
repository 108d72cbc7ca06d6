/- Texts of the proof, joined: TransP2. -/
import Derived.Test.YtnmidfcefljafaaGreatQtG
import Derived.Test.YtnmidfcefljafaaGreatQtTransP
import Derived.Test.YtnmidfcefljafaaGreatQtS
import Derived.Test.YtnmidfcefljafaaGreatQtCipherP4
import Derived.Test.YtnmidfcefljafaaGreatQtLogP5
namespace Go.AI
open Go
theorem chkL_lim {l : LogT} (h : chkL l = 0) : 0 ≤ l.2.1 ∧ l.2.1 < l.1 ∧ 1 ≤ l.1 ∧ l.1 ≤ l.2.2.1 ∧ 2 ≤ l.2.2.1 ∧ l.2.2.1 ≤ 8192 := by
 rcases chkL_cases l with ⟨c, e⟩ | ⟨c, c2, e⟩ | ⟨c, c2, e⟩
 ·rw [h] at e; cases e
 ·rw [h] at e; cases e
 ·omega
theorem payE_nil {c : Int} {l : List Rec} (h : encE l = 0) : payE [] c l = 0 := by unfold payE; rw [if_pos h, if_pos rfl]
theorem payE_key {key : Bys} (hk : key ≠ []) {c : Int} {l : List Rec} (h : encE l = 0) : payE key c l = seaE key c (encR l) := by unfold payE; rw [if_pos h, if_neg hk]
theorem payE_err {key : Bys} {c : Int} {l : List Rec} (h : encE l ≠ 0) : payE key c l = encE l := if_neg h
theorem payV_nil {c : Int} {l : List Rec} : payV [] c l = encR l := if_pos rfl
theorem payV_key {key : Bys} (hk : key ≠ []) {c : Int} {l : List Rec} : payV key c l = seaV key c (encR l) := if_neg hk
theorem com_err {l : LogT} (h : chkL l ≠ 0) (key : Bys) (r : List Rec) : comL l key r = log0 ∧ comO l key r = [] ∧ comE l key r = chkL l := ⟨if_neg fun c => h c.1, if_neg fun c => h c.1, if_neg h⟩
theorem com_pay {l : LogT} (h : chkL l = 0) {key : Bys} {r : List Rec} (hp : payE key (l.2.1 + 1) r ≠ 0) : comL l key r = log0 ∧ comO l key r = [] ∧ comE l key r = payE key (l.2.1 + 1) r := ⟨if_neg fun c => hp c.2, if_neg fun c => hp c.2, by unfold comE; rw [if_pos h, if_neg hp]⟩
theorem com_ok {l : LogT} (h : chkL l = 0) {key : Bys} {r : List Rec} (hp : payE key (l.2.1 + 1) r = 0) : comL l key r = appL l (payV key (l.2.1 + 1) r) ∧ comO l key r = appO l (payV key (l.2.1 + 1) r) ∧ comE l key r = appE l (payV key (l.2.1 + 1) r) := ⟨if_pos ⟨h, hp⟩, if_pos ⟨h, hp⟩, by unfold comE; rw [if_pos h, if_pos hp]⟩
theorem tCommit_plain (l : LogT) (key : Bys) (r : List Rec) (_ : tCommit_P l key r = true) : ∃ F, ∀ {X : Type} (fail : X) (ret : LogT → List DOp → Int → X), tCommit F l key r fail ret = ret (tCommit_r0 l key r) (tCommit_r1 l key r) (tCommit_r2 l key r) := ⟨0, fun fail ret => by
 unfold tCommit tCommit_r0 tCommit_r1 tCommit_r2
 rw [show lCheck_r l = chkL l from rfl, bif_true (c := tEncode_P r) rfl, show tEncode_r1 r = encE r from rfl, show tEncode_r0 r = encV r from rfl]
 by_cases c : chkL l = 0
 ·have hl := chkL_lim c
  rw [bif_false (bne_f c), addI_eq (by omega) (by omega)]
  by_cases c1 : encE r = 0
  ·rw [bif_false (bne_f c1), encV_eq c1]
   by_cases c2 : key = []
   ·subst c2
    obtain ⟨e1, e2, e3⟩ := com_ok (key := []) (r := r) c (payE_nil c1)
    rw [e1, e2, e3, payV_nil]; rfl
   ·have hk : 0 < key.length := List.length_pos_iff.2 c2
    rw [bif_true (tt (by omega)), bif_true (c := cSeal_P _ _ _) rfl, show cSeal_r1 key (l.2.1 + 1) (encR r) = seaE key (l.2.1 + 1) (encR r) from rfl]
    by_cases c3 : seaE key (l.2.1 + 1) (encR r) = 0
    ·obtain ⟨e1, e2, e3⟩ := com_ok (key := key) (r := r) c ((payE_key c2 c1).trans c3)
     rw [bif_false (bne_f c3), e1, e2, e3, payV_key c2]; rfl
    ·obtain ⟨e1, e2, e3⟩ := com_pay (key := key) (r := r) c (by rw [payE_key c2 c1]; exact c3)
     rw [bif_true (bne_t c3), e1, e2, e3, payE_key c2 c1]; rfl
  ·obtain ⟨e1, e2, e3⟩ := com_pay (key := key) (r := r) c (by rw [payE_err c1]; exact c1)
   rw [bif_true (bne_t c1), e1, e2, e3, payE_err c1]; rfl
 ·obtain ⟨e1, e2, e3⟩ := com_err c key r
  rw [bif_true (bne_t c), e1, e2, e3]; rfl⟩
theorem use_iff {k : Bys} : useK k = true ↔ 1 ≤ k.length ∧ k.length ≤ 64 := by simp only [useK, decide_eq_true_eq]
end Go.AI
