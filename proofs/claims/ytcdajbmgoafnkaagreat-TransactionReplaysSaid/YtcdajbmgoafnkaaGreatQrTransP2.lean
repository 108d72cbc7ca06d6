/- Texts of the proof, joined: TransP2. Names of our own are shortened by program; the long ones stand in wip/. -/
import Derived.Test.YtcdajbmgoafnkaaGreatQrG
import Derived.Test.YtcdajbmgoafnkaaGreatQrTransP
import Derived.Test.YtcdajbmgoafnkaaGreatQrS
import Derived.Test.YtcdajbmgoafnkaaGreatQrCipherP4
import Derived.Test.YtcdajbmgoafnkaaGreatQrLogP5
namespace Go.AI
open Go
theorem Qjc {l : Jic} (h : Kij l = 0) : 0 ≤ l.2.1 ∧ l.2.1 < l.1 ∧ 1 ≤ l.1 ∧ l.1 ≤ l.2.2.1 ∧ 2 ≤ l.2.2.1 ∧ l.2.2.1 ≤ 8192 := by
 rcases J4s l with ⟨c, e⟩ | ⟨c, c2, e⟩ | ⟨c, c2, e⟩
 ·rw [h] at e; cases e
 ·rw [h] at e; cases e
 ·omega
theorem K46 {c : Int} {l : List Rec} (h : Kyc l = 0) : K9t [] c l = 0 := by unfold K9t; rw [if_pos h, if_pos rfl]
theorem J9j {key : Bys} (hk : key ≠ []) {c : Int} {l : List Rec} (h : Kyc l = 0) : K9t key c l = K31 key c (Kik l) := by unfold K9t; rw [if_pos h, if_neg hk]
theorem K47 {key : Bys} {c : Int} {l : List Rec} (h : Kyc l ≠ 0) : K9t key c l = Kyc l := if_neg h
theorem K48 {c : Int} {l : List Rec} : Qke [] c l = Kik l := if_pos rfl
theorem K49 {key : Bys} (hk : key ≠ []) {c : Int} {l : List Rec} : Qke key c l = Qkc key c (Kik l) := if_neg hk
theorem Qnj {l : Jic} (h : Kij l ≠ 0) (key : Bys) (r : List Rec) : Qkf l key r = K9q ∧ Kw6 l key r = [] ∧ Qg5 l key r = Kij l := ⟨if_neg fun c => h c.1, if_neg fun c => h c.1, if_neg h⟩
theorem Qd9 {l : Jic} (h : Kij l = 0) {key : Bys} {r : List Rec} (hp : K9t key (l.2.1 + 1) r ≠ 0) : Qkf l key r = K9q ∧ Kw6 l key r = [] ∧ Qg5 l key r = K9t key (l.2.1 + 1) r := ⟨if_neg fun c => hp c.2, if_neg fun c => hp c.2, by unfold Qg5; rw [if_pos h, if_neg hp]⟩
theorem K5a {l : Jic} (h : Kij l = 0) {key : Bys} {r : List Rec} (hp : K9t key (l.2.1 + 1) r = 0) : Qkf l key r = Qos l (Qke key (l.2.1 + 1) r) ∧ Kw6 l key r = Qn0 l (Qke key (l.2.1 + 1) r) ∧ Qg5 l key r = Kw5 l (Qke key (l.2.1 + 1) r) := ⟨if_pos ⟨h, hp⟩, if_pos ⟨h, hp⟩, by unfold Qg5; rw [if_pos h, if_pos hp]⟩
theorem Knl (l : Jic) (key : Bys) (r : List Rec) (_ : J1r l key r = true) : ∃ F, ∀ {X : Type} (fail : X) (ret : Jic → List DOp → Int → X), Kyx F l key r fail ret = ret (Jqe l key r) (Jd7 l key r) (Jqf l key r) := ⟨0, fun fail ret => by
 unfold Kyx Jqe Jd7 Jqf
 rw [show Jl7 l = Kij l from rfl, Jaa (c := Juj r) rfl, show Jka r = Kyc r from rfl, show Jc7 r = Qot r from rfl]
 by_cases c : Kij l = 0
 ·have hl := Qjc c
  rw [Jab (Jgm c), Jai (by omega) (by omega)]
  by_cases c1 : Kyc r = 0
  ·rw [Jab (Jgm c1), Qd7 c1]
   by_cases c2 : key = []
   ·subst c2
    obtain ⟨e1, e2, e3⟩ := K5a (key := []) (r := r) c (K46 c1)
    rw [e1, e2, e3, K48]; rfl
   ·have hk : 0 < key.length := List.length_pos_iff.2 c2
    rw [Jaa (tt (by omega)), Jaa (c := Klq _ _ _) rfl, show Jwl key (l.2.1 + 1) (Kik r) = K31 key (l.2.1 + 1) (Kik r) from rfl]
    by_cases c3 : K31 key (l.2.1 + 1) (Kik r) = 0
    ·obtain ⟨e1, e2, e3⟩ := K5a (key := key) (r := r) c ((J9j c2 c1).trans c3)
     rw [Jab (Jgm c3), e1, e2, e3, K49 c2]; rfl
    ·obtain ⟨e1, e2, e3⟩ := Qd9 (key := key) (r := r) c (by rw [J9j c2 c1]; exact c3)
     rw [Jaa (Jhl c3), e1, e2, e3, J9j c2 c1]; rfl
  ·obtain ⟨e1, e2, e3⟩ := Qd9 (key := key) (r := r) c (by rw [K47 c1]; exact c1)
   rw [Jaa (Jhl c1), e1, e2, e3, K47 c1]; rfl
 ·obtain ⟨e1, e2, e3⟩ := Qnj c key r
  rw [Jaa (Jhl c), e1, e2, e3]; rfl⟩
theorem Qnk {k : Bys} : Kif k = true ↔ 1 ≤ k.length ∧ k.length ≤ 64 := by simp only [Kif, decide_eq_true_eq]
theorem Qpk {k : Bys} {n : Int} {b : Bys} (hk : 1 ≤ k.length ∧ k.length ≤ 64) (hn : 0 ≤ n ∧ n ≤ 9007199254740991) (hb : b.length ≤ 65520) : K31 k n b = 0 ∧ (Qkc k n b).length = b.length + 16 := by
 have e : K31 k n b = 0 := by unfold K31; rw [if_pos (Qnk.2 hk), if_neg (by omega), if_pos (J4p.2 hn)]
 refine ⟨e, ?_⟩
 unfold Qkc
 rw [if_pos e, List.length_append, Jsk, J9h]
def exR : List Rec := [((3 : Int), (([(97 : UInt8), (98 : UInt8)] : List UInt8), ())), ((1 : Int), (([] : List UInt8), ()))]
def exK : Bys := [107, 101, 121]
def exL : Jic := (1, (0, (9, ())))
theorem J4u : Kyc exR = 0 ∧ Kik exR = [2, 3, 2, 97, 98, 1, 0] := by decide +kernel
theorem Qnl : Qg5 exL [] exR = 0 ∧ Qkf exL [] exR = (3, (1, (9, ()))) ∧ (Kw6 exL [] exR).map (fun o => (o.2.1, o.2.2.1.length)) = [(1, 1), (0, 0), (2, 1), (0, 0)] := by
 have h : Kij exL = 0 := by decide
 obtain ⟨e1, e2, e3⟩ := K5a (l := exL) (key := []) (r := exR) h (K46 J4u.1)
 rw [e1, e2, e3, K48, J4u.2]
 decide +kernel
theorem Qjd {l : Jic} {b : Bys} (h : Kw5 l b = 0) (hb : b ≠ []) : (Qn0 l b).map (fun o => (o.2.1, o.2.2.1.length)) = [(l.1, Jco b.length), (0, 0), (l.1 + Jco b.length, 1), (0, 0)] := by
 unfold Qn0 appK
 rw [if_pos h, if_neg hb]
 show [(l.1, (Jqa b).length), (0, 0), (l.1 + Jco b.length, 1), (0, 0)] = _
 rw [J4t]
theorem Qpl : Qg5 exL exK exR = 0 ∧ (Qkf exL exK exR).1 = 4 ∧ (Kw6 exL exK exR).map (fun o => (o.2.1, o.2.2.1.length)) = [(1, 2), (0, 0), (3, 1), (0, 0)] := by
 have h : Kij exL = 0 := by decide
 have hk : exK ≠ [] := by decide
 have hs := Qpk (k := exK) (n := exL.2.1 + 1) (b := Kik exR) (by decide) (by decide) (by rw [J4u.2]; decide)
 obtain ⟨e1, e2, e3⟩ := K5a (l := exL) (key := exK) (r := exR) h ((J9j hk J4u.1).trans hs.1)
 have hl : (Qkc exK (exL.2.1 + 1) (Kik exR)).length = 23 := by rw [hs.2, J4u.2]; rfl
 rw [e1, e2, e3, K49 hk]
 generalize Qkc exK (exL.2.1 + 1) (Kik exR) = b at hl
 have hne : b ≠ [] := fun e => by rw [e] at hl; cases hl
 have ha : Kw5 exL b = 0 := by
  unfold Kw5
  rw [if_pos h, hl]; decide
 refine ⟨ha, ?_, ?_⟩
 ·unfold Qos Qlw
  rw [if_pos ha, hl]; decide
 ·rw [Qjd ha hne, hl]; decide
theorem map4 {l : List DOp} {a b c d : Int × Nat} (h : l.map (fun o => (o.2.1, o.2.2.1.length)) = [a, b, c, d]) : l.length = 4 ∧ (l.getD 0 (0, (0, ([], ())))).2.1 = a.1 ∧ (l.getD 0 (0, (0, ([], ())))).2.2.1.length = a.2 ∧ (l.getD 2 (0, (0, ([], ())))).2.1 = c.1 := by
 match l, h with
 | [x, y, z, w], h =>
  simp only [List.map_cons, List.map_nil, List.cons.injEq] at h
  obtain ⟨h1, _, h3, _⟩ := h
  rw [← h1, ← h3]
  exact ⟨rfl, rfl, rfl, rfl⟩
theorem J4v : ∃ F, ∀ {X : Type} (fail : X) (ret : Bool → X), Jzp F fail ret = ret Jjt := ⟨0, fun fail ret => by
 unfold Jzp
 obtain ⟨n1, n2, n3⟩ := Qnl
 obtain ⟨k1, k2, k3⟩ := Qpl
 obtain ⟨a1, a2, a3, a4⟩ := map4 n3
 obtain ⟨b1, _, b3, _⟩ := map4 k3
 obtain ⟨r1, r2⟩ := J4u
 refine Jcp rfl (Jcp rfl (Jcp rfl ?_))
 refine Juu (show (Kyc exR != 0) = false from Jgm r1) ?_
 refine Juu (show (Qg5 exL [] exR != 0) = false from Jgm n1) ?_
 refine Juu (show (Qg5 exL exK exR != 0) = false from Jgm k1) ?_
 refine Juu (show (!(Qot exR == [2, 3, 2, 97, 98, 1, 0])) = false by rw [Qd7 r1, r2]; rfl) ?_
 refine Juu (show (((Kw6 exL [] exR).length : Int) != 4) = false by rw [a1]; rfl) ?_
 refine Juu (show (((Kw6 exL exK exR).length : Int) != 4) = false by rw [b1]; rfl) ?_
 refine Jcp (show Jtw (.pair (.int .i64) (.pair (.int .i64) (.pair (.int .i64) .unit))) (Qkf exL [] exR) (3, (1, (9, ()))) = true by rw [n2]; rfl) ?_
 refine Jcp (show ((Qkf exL exK exR).1 == 4) = true by rw [k2]; rfl) ?_
 refine Jcp (show decide ((0 : Int) < ((Kw6 exL [] exR).length : Int)) = true by rw [a1]; rfl) ?_
 refine Jcp (show (((Kw6 exL [] exR).getD 0 (0, (0, ([], ())))).2.1 == 1) = true by rw [a2]; rfl) ?_
 refine Jcp (show decide ((0 : Int) < ((Kw6 exL [] exR).length : Int)) = true by rw [a1]; rfl) ?_
 refine Jcp (show ((((Kw6 exL [] exR).getD 0 (0, (0, ([], ())))).2.2.1.length : Int) == 1) = true by rw [a3]; rfl) ?_
 refine Jcp (show decide ((2 : Int) < ((Kw6 exL [] exR).length : Int)) = true by rw [a1]; rfl) ?_
 refine Jcp (show (((Kw6 exL [] exR).getD 2 (0, (0, ([], ())))).2.1 == 2) = true by rw [a4]; rfl) ?_
 refine Jcp (show decide ((0 : Int) < ((Kw6 exL exK exR).length : Int)) = true by rw [b1]; rfl) ?_
 exact congrArg ret (show ((((Kw6 exL exK exR).getD 0 (0, (0, ([], ())))).2.2.1.length : Int) == 2) = true by rw [b3]; rfl)⟩
end Go.AI
