/- Texts of the proof, joined: TransP4. -/
import Derived.Test.YtcdajbmgoafnkaaGreatQcG
import Derived.Test.YtcdajbmgoafnkaaGreatQcTransP2
import Derived.Test.YtcdajbmgoafnkaaGreatQcLogP7
namespace Go.AI
open Go
theorem uCommit_plain (l : LogT) (key : Bys) (r : List Rec) (_ : uCommit_P l key r = true) : ∃ F, ∀ {X : Type} (fail : X) (ret : LogT → List DOp → Int → X), uCommit F l key r fail ret = ret (uCommit_r0 l key r) (uCommit_r1 l key r) (uCommit_r2 l key r) := ⟨0, fun fail ret => by
 unfold uCommit uCommit_r0 uCommit_r1 uCommit_r2
 rw [show qLCheck_r l = chkL l from rfl, bif_true (c := uEncode_P r) rfl, show uEncode_r1 r = encE r from rfl, show uEncode_r0 r = encV r from rfl]
 by_cases c : chkL l = 0
 ·have hl := chkL_lim c
  rw [bif_false (bne_f c), addI_eq (by omega) (by omega)]
  by_cases c1 : encE r = 0
  ·rw [bif_true (beq_t c1), encV_eq c1]
   by_cases c2 : key = []
   ·subst c2
    obtain ⟨e1, e2, e3⟩ := com_ok (key := []) (r := r) c (payE_nil c1)
    rw [e1, e2, e3, payV_nil, c1]; rfl
   ·have hk : 0 < key.length := List.length_pos_iff.2 c2
    rw [bif_true (tt (by omega)), bif_true (c := rSeal_P _ _ _) rfl, show rSeal_r1 key (l.2.1 + 1) (encR r) = seaE key (l.2.1 + 1) (encR r) from rfl]
    by_cases c3 : seaE key (l.2.1 + 1) (encR r) = 0
    ·obtain ⟨e1, e2, e3⟩ := com_ok (key := key) (r := r) c ((payE_key c2 c1).trans c3)
     rw [bif_false (bne_f c3), e1, e2, e3, payV_key c2]; rfl
    ·obtain ⟨e1, e2, e3⟩ := com_pay (key := key) (r := r) c (by rw [payE_key c2 c1]; exact c3)
     rw [bif_true (bne_t c3), e1, e2, e3, payE_key c2 c1]; rfl
  ·obtain ⟨e1, e2, e3⟩ := com_pay (key := key) (r := r) c (by rw [payE_err c1]; exact c1)
   rw [bif_false (beq_f c1), bif_true (bne_t c1), e1, e2, e3, payE_err c1]; rfl
 ·obtain ⟨e1, e2, e3⟩ := com_err c key r
  rw [bif_true (bne_t c), e1, e2, e3]; rfl⟩
theorem beq_lg (a : LogT) : beqT (.pair (.int .i64) (.pair (.int .i64) (.pair (.int .i64) .unit))) a a = true := (beqT_iff (.pair (.int .i64) (.pair (.int .i64) (.pair (.int .i64) .unit))) rfl a a).2 rfl
theorem app_ops (l : LogT) (b : Bys) : opsS (appO l b) = true := by
 unfold appO
 split
 ·rename_i h
  have hb : b.length ≤ 65536 := by
   unfold appE at h
   split at h
   ·split at h
    ·cases h
    ·omega
   ·rename_i hc; exact absurd h hc
  have hn : needN b.length ≤ 5000 := by unfold needN; omega
  refine opsS_iff.2 ⟨?_, fun x hx => ?_⟩
  ·unfold appK
   split <;> simp
  ·unfold appK at hx
   have key : ∀ y, y ∈ [wrO l.1 (dataPs b), syO, wrO (l.1 + needN b.length) [comP b (l.2.1 + 1).toNat], syO] → y.2.2.1.length ≤ 1000000000000 := by
    intro y hy
    simp only [List.mem_cons, List.not_mem_nil, or_false] at hy
    rcases hy with rfl | rfl | rfl | rfl
    ·show (dataPs b).length ≤ _; rw [dataPs_len]; omega
    ·simp [syO]
    ·simp [wrO]
    ·simp [syO]
   refine key x ?_
   split at hx
   ·simp only [List.nil_append] at hx
    exact List.mem_cons_of_mem _ (List.mem_cons_of_mem _ hx)
   ·exact hx
 ·rfl
theorem com_ops (l : LogT) (key : Bys) (r : List Rec) : opsS (comO l key r) = true := by
 unfold comO
 split
 ·exact app_ops _ _
 ·rfl
def TransactionCommits_P (_ : LogT) (_ : Bys) (_ : List Rec) : Bool := true
def TransactionCommits_r (_ : LogT) (_ : Bys) (_ : List Rec) : Bool := true
theorem TransactionCommits_plain (l : LogT) (key : Bys) (r : List Rec) (_ : TransactionCommits_P l key r = true) : ∃ F, ∀ {X : Type} (fail : X) (ret : Bool → X), TransactionCommits F l key r fail ret = ret (TransactionCommits_r l key r) := ⟨0, fun fail ret => by
 unfold TransactionCommits
 refine bif_eqt rfl ?_
 by_cases c : (!uFew_r r) = true
 ·exact bif_eqt c rfl
 refine bif_eqf (by simpa using c) ?_
 by_cases c2 : (key.length : Int) > 200
 ·exact bif_eqt (tt c2) rfl
 refine bif_eqf (ff c2) (bif_eqt rfl (bif_eqt rfl (bif_eqt rfl (bif_eqt (beq_lg _) ?_))))
 refine bif_eqt (show (opsS (comO l key r) && opsS (comO l key r)) = true by rw [com_ops]; rfl) ?_
 exact bif_eqt (show decide (comO l key r = comO l key r) = true from tt rfl) (congrArg ret (show (comE l key r == comE l key r) = true from beq_t rfl))⟩
end Go.AI
