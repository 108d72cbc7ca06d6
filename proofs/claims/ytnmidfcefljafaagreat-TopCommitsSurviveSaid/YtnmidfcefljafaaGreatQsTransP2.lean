/- Texts of the proof, joined: TransP2. Names of our own are shortened by program; the long ones stand in wip/. -/
import Derived.Test.YtnmidfcefljafaaGreatQsG
import Derived.Test.YtnmidfcefljafaaGreatQsTransP
import Derived.Test.YtnmidfcefljafaaGreatQsS
import Derived.Test.YtnmidfcefljafaaGreatQsCipherP4
import Derived.Test.YtnmidfcefljafaaGreatQsLogP5
namespace Go.AI
open Go
theorem K2p {l : Jf5} (h : J5w l = 0) : 0 ≤ l.2.1 ∧ l.2.1 < l.1 ∧ 1 ≤ l.1 ∧ l.1 ≤ l.2.2.1 ∧ 2 ≤ l.2.2.1 ∧ l.2.2.1 ≤ 8192 := by
 rcases Jyf l with ⟨c, e⟩ | ⟨c, c2, e⟩ | ⟨c, c2, e⟩
 ·rw [h] at e; cases e
 ·rw [h] at e; cases e
 ·omega
theorem Kqn {c : Int} {l : List Rec} (h : Kfh l = 0) : Kkx [] c l = 0 := by unfold Kkx; rw [if_pos h, if_pos rfl]
theorem Jwl {key : Bys} (hk : key ≠ []) {c : Int} {l : List Rec} (h : Kfh l = 0) : Kkx key c l = Kku key c (Jx4 l) := by unfold Kkx; rw [if_pos h, if_neg hk]
theorem Kb5 {key : Bys} {c : Int} {l : List Rec} (h : Kfh l ≠ 0) : Kkx key c l = Kfh l := if_neg h
theorem Kb6 {c : Int} {l : List Rec} : J5y [] c l = Jx4 l := if_pos rfl
theorem Kb7 {key : Bys} (hk : key ≠ []) {c : Int} {l : List Rec} : J5y key c l = Kkv key c (Jx4 l) := if_neg hk
theorem K6u {l : Jf5} (h : J5w l ≠ 0) (key : Bys) (r : List Rec) : K3v l key r = Kr0 ∧ J7z l key r = [] ∧ Kfk l key r = J5w l := ⟨if_neg fun c => h c.1, if_neg fun c => h c.1, if_neg h⟩
theorem Kx5 {l : Jf5} (h : J5w l = 0) {key : Bys} {r : List Rec} (hp : Kkx key (l.2.1 + 1) r ≠ 0) : K3v l key r = Kr0 ∧ J7z l key r = [] ∧ Kfk l key r = Kkx key (l.2.1 + 1) r := ⟨if_neg fun c => hp c.2, if_neg fun c => hp c.2, by unfold Kfk; rw [if_pos h, if_neg hp]⟩
theorem Kx6 {l : Jf5} (h : J5w l = 0) {key : Bys} {r : List Rec} (hp : Kkx key (l.2.1 + 1) r = 0) : K3v l key r = K5k l (J5y key (l.2.1 + 1) r) ∧ J7z l key r = K0h l (J5y key (l.2.1 + 1) r) ∧ Kfk l key r = appE l (J5y key (l.2.1 + 1) r) := ⟨if_pos ⟨h, hp⟩, if_pos ⟨h, hp⟩, by unfold Kfk; rw [if_pos h, if_pos hp]⟩
theorem Kb8 (l : Jf5) (key : Bys) (r : List Rec) (_ : Jvz l key r = true) : ∃ F, ∀ {X : Type} (fail : X) (ret : Jf5 → List DOp → Int → X), Klb F l key r fail ret = ret (Je4 l key r) (Jac l key r) (Jmq l key r) := ⟨0, fun fail ret => by
 unfold Klb Je4 Jac Jmq
 rw [show Jjm l = J5w l from rfl, Jaa (c := Jvy r) rfl, show Jj2 r = Kfh r from rfl, show Jcw r = encV r from rfl]
 by_cases c : J5w l = 0
 ·have hl := K2p c
  rw [Jab (Jhl c), Jar (by omega) (by omega)]
  by_cases c1 : Kfh r = 0
  ·rw [Jab (Jhl c1), K6s c1]
   by_cases c2 : key = []
   ·subst c2
    obtain ⟨e1, e2, e3⟩ := Kx6 (key := []) (r := r) c (Kqn c1)
    rw [e1, e2, e3, Kb6]; rfl
   ·have hk : 0 < key.length := List.length_pos_iff.2 c2
    rw [Jaa (tt (by omega)), Jaa (c := Kaj _ _ _) rfl, show Jrs key (l.2.1 + 1) (Jx4 r) = Kku key (l.2.1 + 1) (Jx4 r) from rfl]
    by_cases c3 : Kku key (l.2.1 + 1) (Jx4 r) = 0
    ·obtain ⟨e1, e2, e3⟩ := Kx6 (key := key) (r := r) c ((Jwl c2 c1).trans c3)
     rw [Jab (Jhl c3), e1, e2, e3, Kb7 c2]; rfl
    ·obtain ⟨e1, e2, e3⟩ := Kx5 (key := key) (r := r) c (by rw [Jwl c2 c1]; exact c3)
     rw [Jaa (Jkp c3), e1, e2, e3, Jwl c2 c1]; rfl
  ·obtain ⟨e1, e2, e3⟩ := Kx5 (key := key) (r := r) c (by rw [Kb5 c1]; exact c1)
   rw [Jaa (Jkp c1), e1, e2, e3, Kb5 c1]; rfl
 ·obtain ⟨e1, e2, e3⟩ := K6u c key r
  rw [Jaa (Jkp c), e1, e2, e3]; rfl⟩
theorem K6v {k : Bys} : J5v k = true ↔ 1 ≤ k.length ∧ k.length ≤ 64 := by simp only [J5v, decide_eq_true_eq]
end Go.AI
