/- Texts of the proof, joined: TransP5. -/
import Derived.Test.YtnmidfcefljafaaGreatQtG
import Derived.Test.YtnmidfcefljafaaGreatQtTransP2
import Derived.Test.YtnmidfcefljafaaGreatQtLogP7
namespace Go.AI
open Go
theorem opB_len (d : DK) : (opB d).length ≤ d.1.length := by
 unfold opB
 split
 ·have := (scanP_len (conS d).tail 1).2
  have h2 := con_len d
  rw [List.length_tail] at this; omega
 ·exact Nat.zero_le _
def repK {X : Type} (ret : LogT → List (List Rec) → Int → X) (l : LogT) (x : List (List Rec) × Int) : X := if x.2 = 0 then ret l x.1 0 else ret log0 [] x.2
theorem repK_err {X : Type} (ret : LogT → List (List Rec) → Int → X) (l : LogT) {e : Int} (h : e ≠ 0) : repK ret l ([], e) = ret log0 [] e := if_neg h
theorem unB_nil (i : Int) (b : Bys) : unB [] i b = decR b := if_pos rfl
theorem unB_ok {key : Bys} (h : key ≠ []) {i : Int} {b : Bys} (h2 : opeE key i b = 0) : unB key i b = decR (opeV key i b) := by unfold unB; rw [if_neg h, if_pos h2]
theorem unB_err {key : Bys} (h : key ≠ []) {i : Int} {b : Bys} (h2 : opeE key i b ≠ 0) : unB key i b = ([], opeE key i b) := by unfold unB; rw [if_neg h, if_neg h2]
theorem repG_ok {key : Bys} {i : Int} {b : Bys} {bs : List Bys} {out : List (List Rec)} (h : (unB key i b).2 = 0) : repG key i (b :: bs) out = repG key (i + 1) bs (out ++ [(unB key i b).1]) := by rw [repG, if_pos h]
theorem repG_err {key : Bys} {i : Int} {b : Bys} {bs : List Bys} {out : List (List Rec)} (h : (unB key i b).2 ≠ 0) : repG key i (b :: bs) out = ([], (unB key i b).2) := by rw [repG, if_neg h]
theorem rep_loop {X : Type} (F : Nat) (fail : X) (ret : LogT → List (List Rec) → Int → X) (ex0 ex1 : List Bys → Int → Int → Bys → LogT → Int → List (List Rec) → Bys → LogT → X) (h0 : ∀ p a i k s e out k2 l, ex0 p a i k s e out k2 l = ret s [] e) (h1 : ∀ p a i k s e out k2 l, ex1 p a i k s e out k2 l = ret l out 0)
  (p : List Bys) (hp : p.length ≤ 1000000) (key k2 : Bys) (l s4 : LogT) (s6 : Int) : ∀ (j m i : Nat) (out : List (List Rec)), i + j = p.length → j ≤ m → out.length ≤ i →
  tReplay_l1F F fail ex0 ex1 (m + 1) p (p.length : Nat) i k2 s4 s6 out key l = repK ret l (repG key ((i : Int) + 1) (p.drop i) out)
 | 0, m, i, out, hi, _, _ => by
  rw [tReplay_l1F, tReplay_l1, bif_false (ff (by omega)), h1, List.drop_eq_nil_of_le (by omega), repG]; rfl
 | j + 1, 0, i, _, _, hm, _ => absurd hm (by omega)
 | j + 1, m + 1, i, out, hi, hm, ho => by
  have ih := fun x => rep_loop F fail ret ex0 ex1 h0 h1 p hp key k2 l s4 s6 j m (i + 1) (out ++ [x]) (by omega) (by omega) (by rw [List.length_append, List.length_singleton]; omega)
  have hbig : ∀ x : List Rec, decide ((out ++ [x]).length ≤ big) = true := fun x => le_big (by rw [List.length_append, List.length_singleton]; omega)
  rw [tReplay_l1F, tReplay_l1, Int.toNat_natCast, addI_eq (by omega) (by omega), bif_true (tt (by omega)), bif_true (tt2 (by omega) (by omega)), drop_cons ([] : Bys) (show i < p.length by omega)]
  rw [← nat1] at ih
  rw [nat1]
  rw [nat1] at ih
  generalize p.getD i [] = b
  by_cases ck : key = []
  ·subst ck
   rw [bif_false (ff (by simp)), bif_true (c := tDecode_P b) rfl, show tDecode_r1 b = (decR b).2 from rfl, show tDecode_r0 b = (decR b).1 from rfl]
   by_cases c : (decR b).2 = 0
   ·rw [bif_false (bne_f c), bif_true (hbig _), repG_ok (by rw [unB_nil]; exact c), unB_nil]
    exact ih _
   ·rw [bif_true (bne_t c), h0, repG_err (by rw [unB_nil]; exact c), unB_nil, repK_err _ _ c]; rfl
  ·have hk : 0 < key.length := List.length_pos_iff.2 ck
   rw [bif_true (tt (by omega)), bif_true (c := cOpen_P _ _ _) rfl, show ∀ n, cOpen_r1 key n b = opeE key n b from fun _ => rfl, show ∀ n, cOpen_r0 key n b = opeV key n b from fun _ => rfl]
   by_cases c : opeE key ((i + 1 : Nat) : Int) b = 0
   ·rw [bif_true (beq_t c), bif_true (c := tDecode_P _) rfl, show ∀ x, tDecode_r1 x = (decR x).2 from fun _ => rfl, show ∀ x, tDecode_r0 x = (decR x).1 from fun _ => rfl]
    by_cases c2 : (decR (opeV key ((i + 1 : Nat) : Int) b)).2 = 0
    ·rw [bif_false (bne_f c2), bif_true (hbig _), repG_ok (by rw [unB_ok ck c]; exact c2), unB_ok ck c]
     exact ih _
    ·rw [bif_true (bne_t c2), h0, repG_err (by rw [unB_ok ck c]; exact c2), unB_ok ck c, repK_err _ _ c2]; rfl
   ·rw [bif_false (beq_f c), bif_true (bne_t c), h0, repG_err (by rw [unB_err ck c]; exact c), unB_err ck c, repK_err _ _ c]; rfl
theorem rep_err {d : DK} (h : opE d ≠ 0) (key : Bys) : repE d key = opE d ∧ repL d key = log0 ∧ repV d key = [] := by
 have e : repE d key = opE d := if_neg h
 exact ⟨e, if_neg (by rw [e]; exact h), if_neg (by rw [e]; exact h)⟩
theorem rep_long {d : DK} (h : opE d = 0) {key : Bys} (hk : key.length > 64) : repE d key = 1 ∧ repL d key = log0 ∧ repV d key = [] := by
 have e : repE d key = 1 := by unfold repE; rw [if_pos h, if_pos hk]
 exact ⟨e, if_neg (by rw [e]; decide), if_neg (by rw [e]; decide)⟩
theorem rep_key {d : DK} (h : opE d = 0) {key : Bys} (hk : ¬ key.length > 64) : repE d key = (repG key 1 (opB d) []).2 := by unfold repE; rw [if_pos h, if_neg hk]
theorem rep_fin {X : Type} (ret : LogT → List (List Rec) → Int → X) {d : DK} (h : opE d = 0) {key : Bys} (hk : ¬ key.length > 64) : repK ret (opL d) (repG key 1 (opB d) []) = ret (repL d key) (repV d key) (repE d key) := by
 have e := rep_key h hk
 unfold repK
 by_cases c : (repG key 1 (opB d) []).2 = 0
 ·rw [if_pos c]
  have e2 : repL d key = opL d := if_pos (by rw [e]; exact c)
  have e3 : repV d key = (repG key 1 (opB d) []).1 := if_pos (by rw [e]; exact c)
  rw [e2, e3, e, c]
 ·rw [if_neg c]
  have e2 : repL d key = log0 := if_neg (by rw [e]; exact c)
  have e3 : repV d key = [] := if_neg (by rw [e]; exact c)
  rw [e2, e3, e]
theorem tReplay_plain (d : DK) (key : Bys) (h : tReplay_P d key = true) : ∃ F, ∀ {X : Type} (fail : X) (ret : LogT → List (List Rec) → Int → X), tReplay F d key fail ret = ret (tReplay_r0 d key) (tReplay_r1 d key) (tReplay_r2 d key) := ⟨(opB d).length + 1, fun fail ret => by
 have hlen := opB_len d
 have hs : d.1.length ≤ 1000000 := by
  have h := h
  unfold tReplay_P lOpen_P at h
  rw [Bool.and_eq_true] at h
  exact (small_iff.1 h.1).1
 unfold tReplay tReplay_r0 tReplay_r1 tReplay_r2
 rw [bif_true (c := lOpen_P d) h, show lOpen_r2 d = opE d from rfl, show lOpen_r1 d = opB d from rfl, show lOpen_r0 d = opL d from rfl]
 by_cases c : opE d = 0
 ·rw [bif_false (bne_f c)]
  by_cases c2 : (key.length : Int) > 64
  ·obtain ⟨e1, e2, e3⟩ := rep_long (key := key) c (by omega)
   rw [bif_true (tt c2), e1, e2, e3]; rfl
  ·rw [bif_false (ff c2)]
   refine (rep_loop ((opB d).length + 1) fail ret _ _ (fun _ _ _ _ _ _ _ _ _ => rfl) (fun _ _ _ _ _ _ _ _ _ => rfl) (opB d) (by omega) key key (opL d) _ 0 (opB d).length (opB d).length 0 [] (by omega) (by omega) (by simp)).trans ?_
   rw [List.drop_zero]
   exact rep_fin ret c (by omega)
 ·obtain ⟨e1, e2, e3⟩ := rep_err c key
  rw [bif_true (bne_t c), e1, e2, e3]; rfl⟩
end Go.AI
