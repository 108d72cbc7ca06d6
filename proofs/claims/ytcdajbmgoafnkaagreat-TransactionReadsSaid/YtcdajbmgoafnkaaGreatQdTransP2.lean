/- Texts of the proof, joined: TransP2. -/
import Derived.Test.YtcdajbmgoafnkaaGreatQdG
import Derived.Test.YtcdajbmgoafnkaaGreatQdTransP
import Derived.Test.YtcdajbmgoafnkaaGreatQdS
import Derived.Test.YtcdajbmgoafnkaaGreatQdCipherP4
import Derived.Test.YtcdajbmgoafnkaaGreatQdLogP5
namespace Go.AI
open Go
theorem chkL_lim {l : LogT} (h : chkL l = 0) : 0 ≤ l.2.1 ∧ l.2.1 < l.1 ∧ 1 ≤ l.1 ∧ l.1 ≤ l.2.2.1 ∧ 2 ≤ l.2.2.1 ∧ l.2.2.1 ≤ 8192 := by
 rcases chkL_cases l with ⟨c, e⟩ | ⟨c, c2, e⟩ | ⟨c, c2, e⟩
 ·rw [h] at e; cases e
 ·rw [h] at e; cases e
 ·omega
theorem payE_nil {c : Int} {l : List Rec} (h : encE l = 0) : payE [] c l = 0 := by unfold payE; rw [if_pos h, if_pos rfl]
theorem payE_key {key : Bys} (hk : key ≠ []) {c : Int} {l : List Rec} (h : encE l = 0) : payE key c l = seaE key c (encR l) := by unfold payE; rw [if_pos h, if_neg hk]
theorem payE_err {key : Bys} {c : Int} {l : List Rec} (h : encE l ≠ 0) : payE key c l = encE l := if_neg h
theorem payV_nil {c : Int} {l : List Rec} : payV [] c l = encR l := if_pos rfl
theorem payV_key {key : Bys} (hk : key ≠ []) {c : Int} {l : List Rec} : payV key c l = seaV key c (encR l) := if_neg hk
theorem com_err {l : LogT} (h : chkL l ≠ 0) (key : Bys) (r : List Rec) : comL l key r = log0 ∧ comO l key r = [] ∧ comE l key r = chkL l := ⟨if_neg fun c => h c.1, if_neg fun c => h c.1, if_neg h⟩
theorem com_pay {l : LogT} (h : chkL l = 0) {key : Bys} {r : List Rec} (hp : payE key (l.2.1 + 1) r ≠ 0) : comL l key r = log0 ∧ comO l key r = [] ∧ comE l key r = payE key (l.2.1 + 1) r := ⟨if_neg fun c => hp c.2, if_neg fun c => hp c.2, by unfold comE; rw [if_pos h, if_neg hp]⟩
theorem com_ok {l : LogT} (h : chkL l = 0) {key : Bys} {r : List Rec} (hp : payE key (l.2.1 + 1) r = 0) : comL l key r = appL l (payV key (l.2.1 + 1) r) ∧ comO l key r = appO l (payV key (l.2.1 + 1) r) ∧ comE l key r = appE l (payV key (l.2.1 + 1) r) := ⟨if_pos ⟨h, hp⟩, if_pos ⟨h, hp⟩, by unfold comE; rw [if_pos h, if_pos hp]⟩
theorem tCommit_plain (l : LogT) (key : Bys) (r : List Rec) (_ : tCommit_P l key r = true) : ∃ F, ∀ {X : Type} (fail : X) (ret : LogT → List DOp → Int → X), tCommit F l key r fail ret = ret (tCommit_r0 l key r) (tCommit_r1 l key r) (tCommit_r2 l key r) := ⟨0, fun fail ret => by
 unfold tCommit tCommit_r0 tCommit_r1 tCommit_r2
 rw [show lCheck_r l = chkL l from rfl, bif_true (c := tEncode_P r) rfl, show tEncode_r1 r = encE r from rfl, show tEncode_r0 r = encV r from rfl]
 by_cases c : chkL l = 0
 ·have hl := chkL_lim c
  rw [bif_false (bne_f c), addI_eq (by omega) (by omega)]
  by_cases c1 : encE r = 0
  ·rw [bif_false (bne_f c1), encV_eq c1]
   by_cases c2 : key = []
   ·subst c2
    obtain ⟨e1, e2, e3⟩ := com_ok (key := []) (r := r) c (payE_nil c1)
    rw [e1, e2, e3, payV_nil]; rfl
   ·have hk : 0 < key.length := List.length_pos_iff.2 c2
    rw [bif_true (tt (by omega)), bif_true (c := cSeal_P _ _ _) rfl, show cSeal_r1 key (l.2.1 + 1) (encR r) = seaE key (l.2.1 + 1) (encR r) from rfl]
    by_cases c3 : seaE key (l.2.1 + 1) (encR r) = 0
    ·obtain ⟨e1, e2, e3⟩ := com_ok (key := key) (r := r) c ((payE_key c2 c1).trans c3)
     rw [bif_false (bne_f c3), e1, e2, e3, payV_key c2]; rfl
    ·obtain ⟨e1, e2, e3⟩ := com_pay (key := key) (r := r) c (by rw [payE_key c2 c1]; exact c3)
     rw [bif_true (bne_t c3), e1, e2, e3, payE_key c2 c1]; rfl
  ·obtain ⟨e1, e2, e3⟩ := com_pay (key := key) (r := r) c (by rw [payE_err c1]; exact c1)
   rw [bif_true (bne_t c1), e1, e2, e3, payE_err c1]; rfl
 ·obtain ⟨e1, e2, e3⟩ := com_err c key r
  rw [bif_true (bne_t c), e1, e2, e3]; rfl⟩
theorem use_iff {k : Bys} : useK k = true ↔ 1 ≤ k.length ∧ k.length ≤ 64 := by simp only [useK, decide_eq_true_eq]
theorem sea_ok {k : Bys} {n : Int} {b : Bys} (hk : 1 ≤ k.length ∧ k.length ≤ 64) (hn : 0 ≤ n ∧ n ≤ 9007199254740991) (hb : b.length ≤ 65520) : seaE k n b = 0 ∧ (seaV k n b).length = b.length + 16 := by
 have e : seaE k n b = 0 := by unfold seaE; rw [if_pos (use_iff.2 hk), if_neg (by omega), if_pos (inR_iff.2 hn)]
 refine ⟨e, ?_⟩
 unfold seaV
 rw [if_pos e, List.length_append, strS_len, tagS_len]
def exR : List Rec := [((3 : Int), (([(97 : UInt8), (98 : UInt8)] : List UInt8), ())), ((1 : Int), (([] : List UInt8), ()))]
def exK : Bys := [107, 101, 121]
def exL : LogT := (1, (0, (9, ())))
theorem exR_enc : encE exR = 0 ∧ encR exR = [2, 3, 2, 97, 98, 1, 0] := by decide +kernel
theorem ex_none : comE exL [] exR = 0 ∧ comL exL [] exR = (3, (1, (9, ()))) ∧ (comO exL [] exR).map (fun o => (o.2.1, o.2.2.1.length)) = [(1, 1), (0, 0), (2, 1), (0, 0)] := by
 have h : chkL exL = 0 := by decide
 obtain ⟨e1, e2, e3⟩ := com_ok (l := exL) (key := []) (r := exR) h (payE_nil exR_enc.1)
 rw [e1, e2, e3, payV_nil, exR_enc.2]
 decide +kernel
theorem app_four {l : LogT} {b : Bys} (h : appE l b = 0) (hb : b ≠ []) : (appO l b).map (fun o => (o.2.1, o.2.2.1.length)) = [(l.1, needN b.length), (0, 0), (l.1 + needN b.length, 1), (0, 0)] := by
 unfold appO appK
 rw [if_pos h, if_neg hb]
 show [(l.1, (dataPs b).length), (0, 0), (l.1 + needN b.length, 1), (0, 0)] = _
 rw [dataPs_len]
theorem ex_key : comE exL exK exR = 0 ∧ (comL exL exK exR).1 = 4 ∧ (comO exL exK exR).map (fun o => (o.2.1, o.2.2.1.length)) = [(1, 2), (0, 0), (3, 1), (0, 0)] := by
 have h : chkL exL = 0 := by decide
 have hk : exK ≠ [] := by decide
 have hs := sea_ok (k := exK) (n := exL.2.1 + 1) (b := encR exR) (by decide) (by decide) (by rw [exR_enc.2]; decide)
 obtain ⟨e1, e2, e3⟩ := com_ok (l := exL) (key := exK) (r := exR) h ((payE_key hk exR_enc.1).trans hs.1)
 have hl : (seaV exK (exL.2.1 + 1) (encR exR)).length = 23 := by rw [hs.2, exR_enc.2]; rfl
 rw [e1, e2, e3, payV_key hk]
 generalize seaV exK (exL.2.1 + 1) (encR exR) = b at hl
 have hne : b ≠ [] := fun e => by rw [e] at hl; cases hl
 have ha : appE exL b = 0 := by
  unfold appE
  rw [if_pos h, hl]; decide
 refine ⟨ha, ?_, ?_⟩
 ·unfold appL nextL
  rw [if_pos ha, hl]; decide
 ·rw [app_four ha hne, hl]; decide
theorem map4 {l : List DOp} {a b c d : Int × Nat} (h : l.map (fun o => (o.2.1, o.2.2.1.length)) = [a, b, c, d]) : l.length = 4 ∧ (l.getD 0 (0, (0, ([], ())))).2.1 = a.1 ∧ (l.getD 0 (0, (0, ([], ())))).2.2.1.length = a.2 ∧ (l.getD 2 (0, (0, ([], ())))).2.1 = c.1 := by
 match l, h with
 | [x, y, z, w], h =>
  simp only [List.map_cons, List.map_nil, List.cons.injEq] at h
  obtain ⟨h1, _, h3, _⟩ := h
  rw [← h1, ← h3]
  exact ⟨rfl, rfl, rfl, rfl⟩
theorem law50_awake_plain : ∃ F, ∀ {X : Type} (fail : X) (ret : Bool → X), law50_awake F fail ret = ret law50_awake_r := ⟨0, fun fail ret => by
 unfold law50_awake
 obtain ⟨n1, n2, n3⟩ := ex_none
 obtain ⟨k1, k2, k3⟩ := ex_key
 obtain ⟨a1, a2, a3, a4⟩ := map4 n3
 obtain ⟨b1, _, b3, _⟩ := map4 k3
 obtain ⟨r1, r2⟩ := exR_enc
 refine bif_eqt rfl (bif_eqt rfl (bif_eqt rfl ?_))
 refine bif_eqf (show (encE exR != 0) = false from bne_f r1) ?_
 refine bif_eqf (show (comE exL [] exR != 0) = false from bne_f n1) ?_
 refine bif_eqf (show (comE exL exK exR != 0) = false from bne_f k1) ?_
 refine bif_eqf (show (!(encV exR == [2, 3, 2, 97, 98, 1, 0])) = false by rw [encV_eq r1, r2]; rfl) ?_
 refine bif_eqf (show (((comO exL [] exR).length : Int) != 4) = false by rw [a1]; rfl) ?_
 refine bif_eqf (show (((comO exL exK exR).length : Int) != 4) = false by rw [b1]; rfl) ?_
 refine bif_eqt (show beqT (.pair (.int .i64) (.pair (.int .i64) (.pair (.int .i64) .unit))) (comL exL [] exR) (3, (1, (9, ()))) = true by rw [n2]; rfl) ?_
 refine bif_eqt (show ((comL exL exK exR).1 == 4) = true by rw [k2]; rfl) ?_
 refine bif_eqt (show decide ((0 : Int) < ((comO exL [] exR).length : Int)) = true by rw [a1]; rfl) ?_
 refine bif_eqt (show (((comO exL [] exR).getD 0 (0, (0, ([], ())))).2.1 == 1) = true by rw [a2]; rfl) ?_
 refine bif_eqt (show decide ((0 : Int) < ((comO exL [] exR).length : Int)) = true by rw [a1]; rfl) ?_
 refine bif_eqt (show ((((comO exL [] exR).getD 0 (0, (0, ([], ())))).2.2.1.length : Int) == 1) = true by rw [a3]; rfl) ?_
 refine bif_eqt (show decide ((2 : Int) < ((comO exL [] exR).length : Int)) = true by rw [a1]; rfl) ?_
 refine bif_eqt (show (((comO exL [] exR).getD 2 (0, (0, ([], ())))).2.1 == 2) = true by rw [a4]; rfl) ?_
 refine bif_eqt (show decide ((0 : Int) < ((comO exL exK exR).length : Int)) = true by rw [b1]; rfl) ?_
 exact congrArg ret (show ((((comO exL exK exR).getD 0 (0, (0, ([], ())))).2.2.1.length : Int) == 2) = true by rw [b3]; rfl)⟩
end Go.AI
