/- Texts of the proof, joined: TransP2. Names of our own are shortened by program; the long ones stand in wip/. -/
import Derived.Test.YtcdajbmgoafnkaaGreatQwG
import Derived.Test.YtcdajbmgoafnkaaGreatQwTransP
import Derived.Test.YtcdajbmgoafnkaaGreatQwS
import Derived.Test.YtcdajbmgoafnkaaGreatQwCipherP4
import Derived.Test.YtcdajbmgoafnkaaGreatQwLogP5
namespace Go.AI
open Go
theorem Qb2 {l : Jf6} (h : J96 l = 0) : 0 ≤ l.2.1 ∧ l.2.1 < l.1 ∧ 1 ≤ l.1 ∧ l.1 ≤ l.2.2.1 ∧ 2 ≤ l.2.2.1 ∧ l.2.2.1 ≤ 8192 := by
 rcases J1a l with ⟨c, e⟩ | ⟨c, c2, e⟩ | ⟨c, c2, e⟩
 ·rw [h] at e; cases e
 ·rw [h] at e; cases e
 ·omega
theorem Khl {c : Int} {l : List Rec} (h : Kcu l = 0) : Kw4 [] c l = 0 := by unfold Kw4; rw [if_pos h, if_pos rfl]
theorem Juv {key : Bys} (hk : key ≠ []) {c : Int} {l : List Rec} (h : Kcu l = 0) : Kw4 key c l = Kji key c (Jr2 l) := by unfold Kw4; rw [if_pos h, if_neg hk]
theorem Khm {key : Bys} {c : Int} {l : List Rec} (h : Kcu l ≠ 0) : Kw4 key c l = Kcu l := if_neg h
theorem J47 {c : Int} {l : List Rec} : J0d [] c l = Jr2 l := if_pos rfl
theorem Jy9 {key : Bys} (hk : key ≠ []) {c : Int} {l : List Rec} : J0d key c l = Kfn key c (Jr2 l) := if_neg hk
theorem Qgn {l : Jf6} (h : J96 l ≠ 0) (key : Bys) (r : List Rec) : K19 l key r = Kqa ∧ J2r l key r = [] ∧ Kqb l key r = J96 l := ⟨if_neg fun c => h c.1, if_neg fun c => h c.1, if_neg h⟩
theorem K6v {l : Jf6} (h : J96 l = 0) {key : Bys} {r : List Rec} (hp : Kw4 key (l.2.1 + 1) r ≠ 0) : K19 l key r = Kqa ∧ J2r l key r = [] ∧ Kqb l key r = Kw4 key (l.2.1 + 1) r := ⟨if_neg fun c => hp c.2, if_neg fun c => hp c.2, by unfold Kqb; rw [if_pos h, if_neg hp]⟩
theorem Kmi {l : Jf6} (h : J96 l = 0) {key : Bys} {r : List Rec} (hp : Kw4 key (l.2.1 + 1) r = 0) : K19 l key r = Qdb l (J0d key (l.2.1 + 1) r) ∧ J2r l key r = K4e l (J0d key (l.2.1 + 1) r) ∧ Kqb l key r = appE l (J0d key (l.2.1 + 1) r) := ⟨if_pos ⟨h, hp⟩, if_pos ⟨h, hp⟩, by unfold Kqb; rw [if_pos h, if_pos hp]⟩
theorem Khn (l : Jf6) (key : Bys) (r : List Rec) (_ : Joi l key r = true) : ∃ F, ∀ {X : Type} (fail : X) (ret : Jf6 → List DOp → Int → X), Kr0 F l key r fail ret = ret (Jhp l key r) (Jb2 l key r) (Jlf l key r) := ⟨0, fun fail ret => by
 unfold Kr0 Jhp Jb2 Jlf
 rw [show Jkr l = J96 l from rfl, Jaa (c := Jr4 r) rfl, show Ji2 r = Kcu r from rfl, show Jcm r = Qh2 r from rfl]
 by_cases c : J96 l = 0
 ·have hl := Qb2 c
  rw [Jab (Jgh c), Jak (by omega) (by omega)]
  by_cases c1 : Kcu r = 0
  ·rw [Jab (Jgh c1), K6u c1]
   by_cases c2 : key = []
   ·subst c2
    obtain ⟨e1, e2, e3⟩ := Kmi (key := []) (r := r) c (Khl c1)
    rw [e1, e2, e3, J47]; rfl
   ·have hk : 0 < key.length := List.length_pos_iff.2 c2
    rw [Jaa (tt (by omega)), Jaa (c := Kfo _ _ _) rfl, show Jtu key (l.2.1 + 1) (Jr2 r) = Kji key (l.2.1 + 1) (Jr2 r) from rfl]
    by_cases c3 : Kji key (l.2.1 + 1) (Jr2 r) = 0
    ·obtain ⟨e1, e2, e3⟩ := Kmi (key := key) (r := r) c ((Juv c2 c1).trans c3)
     rw [Jab (Jgh c3), e1, e2, e3, Jy9 c2]; rfl
    ·obtain ⟨e1, e2, e3⟩ := K6v (key := key) (r := r) c (by rw [Juv c2 c1]; exact c3)
     rw [Jaa (Jj8 c3), e1, e2, e3, Juv c2 c1]; rfl
  ·obtain ⟨e1, e2, e3⟩ := K6v (key := key) (r := r) c (by rw [Khm c1]; exact c1)
   rw [Jaa (Jj8 c1), e1, e2, e3, Khm c1]; rfl
 ·obtain ⟨e1, e2, e3⟩ := Qgn c key r
  rw [Jaa (Jj8 c), e1, e2, e3]; rfl⟩
theorem Ks1 {k : Bys} : Kaf k = true ↔ 1 ≤ k.length ∧ k.length ≤ 64 := by simp only [Kaf, decide_eq_true_eq]
theorem Qiu {k : Bys} {n : Int} {b : Bys} (hk : 1 ≤ k.length ∧ k.length ≤ 64) (hn : 0 ≤ n ∧ n ≤ 9007199254740991) (hb : b.length ≤ 65520) : Kji k n b = 0 ∧ (Kfn k n b).length = b.length + 16 := by
 have e : Kji k n b = 0 := by unfold Kji; rw [if_pos (Ks1.2 hk), if_neg (by omega), if_pos (Jqd.2 hn)]
 refine ⟨e, ?_⟩
 unfold Kfn
 rw [if_pos e, List.length_append, Jih, Jus]
def exR : List Rec := [((3 : Int), (([(97 : UInt8), (98 : UInt8)] : List UInt8), ())), ((1 : Int), (([] : List UInt8), ()))]
def exK : Bys := [107, 101, 121]
def exL : Jf6 := (1, (0, (9, ())))
theorem J1c : Kcu exR = 0 ∧ Jr2 exR = [2, 3, 2, 97, 98, 1, 0] := by decide +kernel
theorem Qgo : Kqb exL [] exR = 0 ∧ K19 exL [] exR = (3, (1, (9, ()))) ∧ (J2r exL [] exR).map (fun o => (o.2.1, o.2.2.1.length)) = [(1, 1), (0, 0), (2, 1), (0, 0)] := by
 have h : J96 exL = 0 := by decide
 obtain ⟨e1, e2, e3⟩ := Kmi (l := exL) (key := []) (r := exR) h (Khl J1c.1)
 rw [e1, e2, e3, J47, J1c.2]
 decide +kernel
theorem Qb3 {l : Jf6} {b : Bys} (h : appE l b = 0) (hb : b ≠ []) : (K4e l b).map (fun o => (o.2.1, o.2.2.1.length)) = [(l.1, Jar b.length), (0, 0), (l.1 + Jar b.length, 1), (0, 0)] := by
 unfold K4e Jxf
 rw [if_pos h, if_neg hb]
 show [(l.1, (Jcn b).length), (0, 0), (l.1 + Jar b.length, 1), (0, 0)] = _
 rw [Jb7]
theorem Qiv : Kqb exL exK exR = 0 ∧ (K19 exL exK exR).1 = 4 ∧ (J2r exL exK exR).map (fun o => (o.2.1, o.2.2.1.length)) = [(1, 2), (0, 0), (3, 1), (0, 0)] := by
 have h : J96 exL = 0 := by decide
 have hk : exK ≠ [] := by decide
 have hs := Qiu (k := exK) (n := exL.2.1 + 1) (b := Jr2 exR) (by decide) (by decide) (by rw [J1c.2]; decide)
 obtain ⟨e1, e2, e3⟩ := Kmi (l := exL) (key := exK) (r := exR) h ((Juv hk J1c.1).trans hs.1)
 have hl : (Kfn exK (exL.2.1 + 1) (Jr2 exR)).length = 23 := by rw [hs.2, J1c.2]; rfl
 rw [e1, e2, e3, Jy9 hk]
 generalize Kfn exK (exL.2.1 + 1) (Jr2 exR) = b at hl
 have hne : b ≠ [] := fun e => by rw [e] at hl; cases hl
 have ha : appE exL b = 0 := by
  unfold appE
  rw [if_pos h, hl]; decide
 refine ⟨ha, ?_, ?_⟩
 ·unfold Qdb K4f
  rw [if_pos ha, hl]; decide
 ·rw [Qb3 ha hne, hl]; decide
theorem map4 {l : List DOp} {a b c d : Int × Nat} (h : l.map (fun o => (o.2.1, o.2.2.1.length)) = [a, b, c, d]) : l.length = 4 ∧ (l.getD 0 (0, (0, ([], ())))).2.1 = a.1 ∧ (l.getD 0 (0, (0, ([], ())))).2.2.1.length = a.2 ∧ (l.getD 2 (0, (0, ([], ())))).2.1 = c.1 := by
 match l, h with
 | [x, y, z, w], h =>
  simp only [List.map_cons, List.map_nil, List.cons.injEq] at h
  obtain ⟨h1, _, h3, _⟩ := h
  rw [← h1, ← h3]
  exact ⟨rfl, rfl, rfl, rfl⟩
theorem J1d : ∃ F, ∀ {X : Type} (fail : X) (ret : Bool → X), Jwn F fail ret = ret Jcy := ⟨0, fun fail ret => by
 unfold Jwn
 obtain ⟨n1, n2, n3⟩ := Qgo
 obtain ⟨k1, k2, k3⟩ := Qiv
 obtain ⟨a1, a2, a3, a4⟩ := map4 n3
 obtain ⟨b1, _, b3, _⟩ := map4 k3
 obtain ⟨r1, r2⟩ := J1c
 refine Jbg rfl (Jbg rfl (Jbg rfl ?_))
 refine Jdg (show (Kcu exR != 0) = false from Jgh r1) ?_
 refine Jdg (show (Kqb exL [] exR != 0) = false from Jgh n1) ?_
 refine Jdg (show (Kqb exL exK exR != 0) = false from Jgh k1) ?_
 refine Jdg (show (!(Qh2 exR == [2, 3, 2, 97, 98, 1, 0])) = false by rw [K6u r1, r2]; rfl) ?_
 refine Jdg (show (((J2r exL [] exR).length : Int) != 4) = false by rw [a1]; rfl) ?_
 refine Jdg (show (((J2r exL exK exR).length : Int) != 4) = false by rw [b1]; rfl) ?_
 refine Jbg (show Jv0 (.pair (.int .i64) (.pair (.int .i64) (.pair (.int .i64) .unit))) (K19 exL [] exR) (3, (1, (9, ()))) = true by rw [n2]; rfl) ?_
 refine Jbg (show ((K19 exL exK exR).1 == 4) = true by rw [k2]; rfl) ?_
 refine Jbg (show decide ((0 : Int) < ((J2r exL [] exR).length : Int)) = true by rw [a1]; rfl) ?_
 refine Jbg (show (((J2r exL [] exR).getD 0 (0, (0, ([], ())))).2.1 == 1) = true by rw [a2]; rfl) ?_
 refine Jbg (show decide ((0 : Int) < ((J2r exL [] exR).length : Int)) = true by rw [a1]; rfl) ?_
 refine Jbg (show ((((J2r exL [] exR).getD 0 (0, (0, ([], ())))).2.2.1.length : Int) == 1) = true by rw [a3]; rfl) ?_
 refine Jbg (show decide ((2 : Int) < ((J2r exL [] exR).length : Int)) = true by rw [a1]; rfl) ?_
 refine Jbg (show (((J2r exL [] exR).getD 2 (0, (0, ([], ())))).2.1 == 2) = true by rw [a4]; rfl) ?_
 refine Jbg (show decide ((0 : Int) < ((J2r exL exK exR).length : Int)) = true by rw [b1]; rfl) ?_
 exact congrArg ret (show ((((J2r exL exK exR).getD 0 (0, (0, ([], ())))).2.2.1.length : Int) == 2) = true by rw [b3]; rfl)⟩
end Go.AI
