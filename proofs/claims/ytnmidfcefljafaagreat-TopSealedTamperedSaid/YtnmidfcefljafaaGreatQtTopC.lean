/- Texts of the proof, joined: TopC. -/
import Derived.Test.YtnmidfcefljafaaGreatQtTransC
import Derived.Test.YtnmidfcefljafaaGreatQtS
namespace Go.AI
open Go
theorem TrOk.sam {key : Bys} {r : List Rec} (h : TrOk key r) : samP r = true := by
 have := (chkR_lim (enc_ok h.enc).1).1
 exact tt (by omega)
theorem samA_of {l : List (List Rec)} (h : ∀ r, r ∈ l → samP r = true) (hl : l.length ≤ 1000000) : samA l = true := by
 unfold samA
 rw [Bool.and_eq_true, decide_eq_true_eq]
 exact ⟨by omega, List.all_eq_true.2 h⟩
theorem TrLog.sam {key : Bys} {n : Nat} {s : List Page} {done : List (List Rec)} (h : TrLog key n s done) (hn : n ≤ 8192) : samA done = true :=
 samA_of (fun r hr => (h.ok r hr).sam) (by have := h.few; omega)
theorem com_tr {l : LogT} {key : Bys} {r : List Rec} (h : comE l key r = 0) : TrOk key r := by
 unfold comE at h
 by_cases c : chkL l = 0
 ·rw [if_pos c] at h
  by_cases c2 : payE key (l.2.1 + 1) r = 0
  ·exact TrOk.of c2
  ·rw [if_neg c2] at h; exact absurd h c2
 ·rw [if_neg c] at h; exact absurd h c
theorem new_stillT {n : Nat} (h1 : 1 ≤ n) (h2 : n ≤ 8192) : newD n = still (List.replicate n z16) := by
 unfold newD
 rw [if_pos (by omega), Int.toNat_natCast]; rfl
theorem begin_valsT (n : Nat) (h1 : 2 ≤ n) (h2 : n ≤ 8192) : dRun_P (dNew_r0 (n : Int)) (lFormat_r1 (n : Int)) = true ∧ dRun_r0 (dNew_r0 (n : Int)) (lFormat_r1 (n : Int)) = begT n ∧ dRun_r2 (dNew_r0 (n : Int)) (lFormat_r1 (n : Int)) = 0 ∧ lFormat_r2 (n : Int) = 0 ∧ dNew_r1 (n : Int) = 0 ∧ lFormat_r0 (n : Int) = (1, (0, ((n : Int), ()))) := by
 have hl : (List.replicate n z16).length = n := List.length_replicate
 have b2 : runD (newD (n : Int)) (fmtO (n : Int)) = (begT n, (4, 0)) := by rw [new_stillT (by omega) h2, fmt_run hl h1 h2]; rfl
 refine ⟨?_, ?_, ?_, if_pos (by omega), if_pos (by omega), if_pos (by omega)⟩
 ·show runP (newD (n : Int)) (fmtO (n : Int)) = true
  rw [new_stillT (by omega) h2]
  have e : fmtO n = [wrO 0 (List.replicate n z16), syO, wrO 0 [headP], syO] := by unfold fmtO; rw [if_pos (by omega), Int.toNat_natCast]
  refine run_iff.2 ⟨by show (List.replicate n z16).length ≤ _; omega, Nat.zero_le _, by rw [e]; simp, ?_⟩
  rw [e]
  show (List.replicate n z16).length + (0 + (1 + (0 + 0))) ≤ _
  omega
 ·show (runD (newD (n : Int)) (fmtO (n : Int))).1 = _
  rw [b2]
 ·show (runD (newD (n : Int)) (fmtO (n : Int))).2.2 = _
  rw [b2]
end Go.AI
