/- Texts of the proof, joined: TransP2. Names of our own are shortened by program; the long ones stand in wip/. -/
import Derived.Test.YtnmidfcefljafaaGreatQpG
import Derived.Test.YtnmidfcefljafaaGreatQpTransP
import Derived.Test.YtnmidfcefljafaaGreatQpS
import Derived.Test.YtnmidfcefljafaaGreatQpCipherP4
import Derived.Test.YtnmidfcefljafaaGreatQpLogP5
namespace Go.AI
open Go
theorem K4q {l : Jf9} (h : J86 l = 0) : 0 ≤ l.2.1 ∧ l.2.1 < l.1 ∧ 1 ≤ l.1 ∧ l.1 ≤ l.2.2.1 ∧ 2 ≤ l.2.2.1 ∧ l.2.2.1 ≤ 8192 := by
 rcases Jyt l with ⟨c, e⟩ | ⟨c, c2, e⟩ | ⟨c, c2, e⟩
 ·rw [h] at e; cases e
 ·rw [h] at e; cases e
 ·omega
theorem Ksb {c : Int} {l : List Rec} (h : Ke5 l = 0) : Kra [] c l = 0 := by unfold Kra; rw [if_pos h, if_pos rfl]
theorem Jwy {key : Bys} (hk : key ≠ []) {c : Int} {l : List Rec} (h : Ke5 l = 0) : Kra key c l = Kl5 key c (Jyk l) := by unfold Kra; rw [if_pos h, if_neg hk]
theorem Kdf {key : Bys} {c : Int} {l : List Rec} (h : Ke5 l ≠ 0) : Kra key c l = Ke5 l := if_neg h
theorem Kdg {c : Int} {l : List Rec} : Kbv [] c l = Jyk l := if_pos rfl
theorem Kdh {key : Bys} (hk : key ≠ []) {c : Int} {l : List Rec} : Kbv key c l = Kq5 key c (Jyk l) := if_neg hk
theorem K8t {l : Jf9} (h : J86 l ≠ 0) (key : Bys) (r : List Rec) : Kl7 l key r = Ktv ∧ J30 l key r = [] ∧ J6q l key r = J86 l := ⟨if_neg fun c => h c.1, if_neg fun c => h c.1, if_neg h⟩
theorem Kz3 {l : Jf9} (h : J86 l = 0) {key : Bys} {r : List Rec} (hp : Kra key (l.2.1 + 1) r ≠ 0) : Kl7 l key r = Ktv ∧ J30 l key r = [] ∧ J6q l key r = Kra key (l.2.1 + 1) r := ⟨if_neg fun c => hp c.2, if_neg fun c => hp c.2, by unfold J6q; rw [if_pos h, if_neg hp]⟩
theorem Kz4 {l : Jf9} (h : J86 l = 0) {key : Bys} {r : List Rec} (hp : Kra key (l.2.1 + 1) r = 0) : Kl7 l key r = K7i l (Kbv key (l.2.1 + 1) r) ∧ J30 l key r = K2k l (Kbv key (l.2.1 + 1) r) ∧ J6q l key r = appE l (Kbv key (l.2.1 + 1) r) := ⟨if_pos ⟨h, hp⟩, if_pos ⟨h, hp⟩, by unfold J6q; rw [if_pos h, if_pos hp]⟩
theorem Kdi (l : Jf9) (key : Bys) (r : List Rec) (_ : J31 l key r = true) : ∃ F, ∀ {X : Type} (fail : X) (ret : Jf9 → List DOp → Int → X), Kml F l key r fail ret = ret (Jkc l key r) (Jac l key r) (Jm0 l key r) := ⟨0, fun fail ret => by
 unfold Kml Jkc Jac Jm0
 rw [show Jjv l = J86 l from rfl, Jaa (c := Jwd r) rfl, show Jkb r = Ke5 r from rfl, show Jc1 r = encV r from rfl]
 by_cases c : J86 l = 0
 ·have hl := K4q c
  rw [Jab (Jgi c), Jao (by omega) (by omega)]
  by_cases c1 : Ke5 r = 0
  ·rw [Jab (Jgi c1), K8r c1]
   by_cases c2 : key = []
   ·subst c2
    obtain ⟨e1, e2, e3⟩ := Kz4 (key := []) (r := r) c (Ksb c1)
    rw [e1, e2, e3, Kdg]; rfl
   ·have hk : 0 < key.length := List.length_pos_iff.2 c2
    rw [Jaa (tt (by omega)), Jaa (c := Kbt _ _ _) rfl, show Jr6 key (l.2.1 + 1) (Jyk r) = Kl5 key (l.2.1 + 1) (Jyk r) from rfl]
    by_cases c3 : Kl5 key (l.2.1 + 1) (Jyk r) = 0
    ·obtain ⟨e1, e2, e3⟩ := Kz4 (key := key) (r := r) c ((Jwy c2 c1).trans c3)
     rw [Jab (Jgi c3), e1, e2, e3, Kdh c2]; rfl
    ·obtain ⟨e1, e2, e3⟩ := Kz3 (key := key) (r := r) c (by rw [Jwy c2 c1]; exact c3)
     rw [Jaa (Jh9 c3), e1, e2, e3, Jwy c2 c1]; rfl
  ·obtain ⟨e1, e2, e3⟩ := Kz3 (key := key) (r := r) c (by rw [Kdf c1]; exact c1)
   rw [Jaa (Jh9 c1), e1, e2, e3, Kdf c1]; rfl
 ·obtain ⟨e1, e2, e3⟩ := K8t c key r
  rw [Jaa (Jh9 c), e1, e2, e3]; rfl⟩
theorem K8u {k : Bys} : J61 k = true ↔ 1 ≤ k.length ∧ k.length ≤ 64 := by simp only [J61, decide_eq_true_eq]
end Go.AI
