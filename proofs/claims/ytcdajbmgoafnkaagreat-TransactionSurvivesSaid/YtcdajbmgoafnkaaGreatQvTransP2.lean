/- Texts of the proof, joined: TransP2. Names of our own are shortened by program; the long ones stand in wip/. -/
import Derived.Test.YtcdajbmgoafnkaaGreatQvG
import Derived.Test.YtcdajbmgoafnkaaGreatQvTransP
import Derived.Test.YtcdajbmgoafnkaaGreatQvS
import Derived.Test.YtcdajbmgoafnkaaGreatQvCipherP4
import Derived.Test.YtcdajbmgoafnkaaGreatQvLogP5
namespace Go.AI
open Go
theorem K34 {l : Jfp} (h : J6g l = 0) : 0 ≤ l.2.1 ∧ l.2.1 < l.1 ∧ 1 ≤ l.1 ∧ l.1 ≤ l.2.2.1 ∧ 2 ≤ l.2.2.1 ∧ l.2.2.1 ≤ 8192 := by
 rcases Jyy l with ⟨c, e⟩ | ⟨c, c2, e⟩ | ⟨c, c2, e⟩
 ·rw [h] at e; cases e
 ·rw [h] at e; cases e
 ·omega
theorem Kc0 {c : Int} {l : List Rec} (h : J8t l = 0) : Kqe [] c l = 0 := by unfold Kqe; rw [if_pos h, if_pos rfl]
theorem Js2 {key : Bys} (hk : key ≠ []) {c : Int} {l : List Rec} (h : J8t l = 0) : Kqe key c l = Ken key c (Jup l) := by unfold Kqe; rw [if_pos h, if_neg hk]
theorem Kc1 {key : Bys} {c : Int} {l : List Rec} (h : J8t l ≠ 0) : Kqe key c l = J8t l := if_neg h
theorem J17 {c : Int} {l : List Rec} : J6t [] c l = Jup l := if_pos rfl
theorem J18 {key : Bys} (hk : key ≠ []) {c : Int} {l : List Rec} : J6t key c l = Kbc key c (Jup l) := if_neg hk
theorem K79 {l : Jfp} (h : J6g l ≠ 0) (key : Bys) (r : List Rec) : Ku2 l key r = Kqa ∧ Jtl l key r = [] ∧ Kf9 l key r = J6g l := ⟨if_neg fun c => h c.1, if_neg fun c => h c.1, if_neg h⟩
theorem Ky8 {l : Jfp} (h : J6g l = 0) {key : Bys} {r : List Rec} (hp : Kqe key (l.2.1 + 1) r ≠ 0) : Ku2 l key r = Kqa ∧ Jtl l key r = [] ∧ Kf9 l key r = Kqe key (l.2.1 + 1) r := ⟨if_neg fun c => hp c.2, if_neg fun c => hp c.2, by unfold Kf9; rw [if_pos h, if_neg hp]⟩
theorem Khj {l : Jfp} (h : J6g l = 0) {key : Bys} {r : List Rec} (hp : Kqe key (l.2.1 + 1) r = 0) : Ku2 l key r = K49 l (J6t key (l.2.1 + 1) r) ∧ Jtl l key r = Ku0 l (J6t key (l.2.1 + 1) r) ∧ Kf9 l key r = appE l (J6t key (l.2.1 + 1) r) := ⟨if_pos ⟨h, hp⟩, if_pos ⟨h, hp⟩, by unfold Kf9; rw [if_pos h, if_pos hp]⟩
theorem Kc2 (l : Jfp) (key : Bys) (r : List Rec) (_ : Ji9 l key r = true) : ∃ F, ∀ {X : Type} (fail : X) (ret : Jfp → List DOp → Int → X), Kly F l key r fail ret = ret (Jdl l key r) (Jav l key r) (Jhg l key r) := ⟨0, fun fail ret => by
 unfold Kly Jdl Jav Jhg
 rw [show Jj3 l = J6g l from rfl, Jaa (c := Jqt r) rfl, show Jim r = J8t r from rfl, show Jcy r = K9s r from rfl]
 by_cases c : J6g l = 0
 ·have hl := K34 c
  rw [Jab (Jf8 c), Jam (by omega) (by omega)]
  by_cases c1 : J8t r = 0
  ·rw [Jab (Jf8 c1), Ky7 c1]
   by_cases c2 : key = []
   ·subst c2
    obtain ⟨e1, e2, e3⟩ := Khj (key := []) (r := r) c (Kc0 c1)
    rw [e1, e2, e3, J17]; rfl
   ·have hk : 0 < key.length := List.length_pos_iff.2 c2
    rw [Jaa (tt (by omega)), Jaa (c := Kbe _ _ _) rfl, show Jsc key (l.2.1 + 1) (Jup r) = Ken key (l.2.1 + 1) (Jup r) from rfl]
    by_cases c3 : Ken key (l.2.1 + 1) (Jup r) = 0
    ·obtain ⟨e1, e2, e3⟩ := Khj (key := key) (r := r) c ((Js2 c2 c1).trans c3)
     rw [Jab (Jf8 c3), e1, e2, e3, J18 c2]; rfl
    ·obtain ⟨e1, e2, e3⟩ := Ky8 (key := key) (r := r) c (by rw [Js2 c2 c1]; exact c3)
     rw [Jaa (Jjj c3), e1, e2, e3, Js2 c2 c1]; rfl
  ·obtain ⟨e1, e2, e3⟩ := Ky8 (key := key) (r := r) c (by rw [Kc1 c1]; exact c1)
   rw [Jaa (Jjj c1), e1, e2, e3, Kc1 c1]; rfl
 ·obtain ⟨e1, e2, e3⟩ := K79 c key r
  rw [Jaa (Jjj c), e1, e2, e3]; rfl⟩
theorem Ky9 {k : Bys} : J6r k = true ↔ 1 ≤ k.length ∧ k.length ≤ 64 := by simp only [J6r, decide_eq_true_eq]
theorem Qag {k : Bys} {n : Int} {b : Bys} (hk : 1 ≤ k.length ∧ k.length ≤ 64) (hn : 0 ≤ n ∧ n ≤ 9007199254740991) (hb : b.length ≤ 65520) : Ken k n b = 0 ∧ (Kbc k n b).length = b.length + 16 := by
 have e : Ken k n b = 0 := by unfold Ken; rw [if_pos (Ky9.2 hk), if_neg (by omega), if_pos (J3w.2 hn)]
 refine ⟨e, ?_⟩
 unfold Kbc
 rw [if_pos e, List.length_append, Jkd, Jsz]
def exR : List Rec := [((3 : Int), (([(97 : UInt8), (98 : UInt8)] : List UInt8), ())), ((1 : Int), (([] : List UInt8), ()))]
def exK : Bys := [107, 101, 121]
def exL : Jfp := (1, (0, (9, ())))
theorem Jy0 : J8t exR = 0 ∧ Jup exR = [2, 3, 2, 97, 98, 1, 0] := by decide +kernel
theorem K8a : Kf9 exL [] exR = 0 ∧ Ku2 exL [] exR = (3, (1, (9, ()))) ∧ (Jtl exL [] exR).map (fun o => (o.2.1, o.2.2.1.length)) = [(1, 1), (0, 0), (2, 1), (0, 0)] := by
 have h : J6g exL = 0 := by decide
 obtain ⟨e1, e2, e3⟩ := Khj (l := exL) (key := []) (r := exR) h (Kc0 Jy0.1)
 rw [e1, e2, e3, J17, Jy0.2]
 decide +kernel
theorem K35 {l : Jfp} {b : Bys} (h : appE l b = 0) (hb : b ≠ []) : (Ku0 l b).map (fun o => (o.2.1, o.2.2.1.length)) = [(l.1, Jaq b.length), (0, 0), (l.1 + Jaq b.length, 1), (0, 0)] := by
 unfold Ku0 Juo
 rw [if_pos h, if_neg hb]
 show [(l.1, (Jc0 b).length), (0, 0), (l.1 + Jaq b.length, 1), (0, 0)] = _
 rw [Jcl]
theorem Qah : Kf9 exL exK exR = 0 ∧ (Ku2 exL exK exR).1 = 4 ∧ (Jtl exL exK exR).map (fun o => (o.2.1, o.2.2.1.length)) = [(1, 2), (0, 0), (3, 1), (0, 0)] := by
 have h : J6g exL = 0 := by decide
 have hk : exK ≠ [] := by decide
 have hs := Qag (k := exK) (n := exL.2.1 + 1) (b := Jup exR) (by decide) (by decide) (by rw [Jy0.2]; decide)
 obtain ⟨e1, e2, e3⟩ := Khj (l := exL) (key := exK) (r := exR) h ((Js2 hk Jy0.1).trans hs.1)
 have hl : (Kbc exK (exL.2.1 + 1) (Jup exR)).length = 23 := by rw [hs.2, Jy0.2]; rfl
 rw [e1, e2, e3, J18 hk]
 generalize Kbc exK (exL.2.1 + 1) (Jup exR) = b at hl
 have hne : b ≠ [] := fun e => by rw [e] at hl; cases hl
 have ha : appE exL b = 0 := by
  unfold appE
  rw [if_pos h, hl]; decide
 refine ⟨ha, ?_, ?_⟩
 ·unfold K49 Kw9
  rw [if_pos ha, hl]; decide
 ·rw [K35 ha hne, hl]; decide
theorem map4 {l : List DOp} {a b c d : Int × Nat} (h : l.map (fun o => (o.2.1, o.2.2.1.length)) = [a, b, c, d]) : l.length = 4 ∧ (l.getD 0 (0, (0, ([], ())))).2.1 = a.1 ∧ (l.getD 0 (0, (0, ([], ())))).2.2.1.length = a.2 ∧ (l.getD 2 (0, (0, ([], ())))).2.1 = c.1 := by
 match l, h with
 | [x, y, z, w], h =>
  simp only [List.map_cons, List.map_nil, List.cons.injEq] at h
  obtain ⟨h1, _, h3, _⟩ := h
  rw [← h1, ← h3]
  exact ⟨rfl, rfl, rfl, rfl⟩
theorem Jy1 : ∃ F, ∀ {X : Type} (fail : X) (ret : Bool → X), Jut F fail ret = ret Jcb := ⟨0, fun fail ret => by
 unfold Jut
 obtain ⟨n1, n2, n3⟩ := K8a
 obtain ⟨k1, k2, k3⟩ := Qah
 obtain ⟨a1, a2, a3, a4⟩ := map4 n3
 obtain ⟨b1, _, b3, _⟩ := map4 k3
 obtain ⟨r1, r2⟩ := Jy0
 refine Jbn rfl (Jbn rfl (Jbn rfl ?_))
 refine Jde (show (J8t exR != 0) = false from Jf8 r1) ?_
 refine Jde (show (Kf9 exL [] exR != 0) = false from Jf8 n1) ?_
 refine Jde (show (Kf9 exL exK exR != 0) = false from Jf8 k1) ?_
 refine Jde (show (!(K9s exR == [2, 3, 2, 97, 98, 1, 0])) = false by rw [Ky7 r1, r2]; rfl) ?_
 refine Jde (show (((Jtl exL [] exR).length : Int) != 4) = false by rw [a1]; rfl) ?_
 refine Jde (show (((Jtl exL exK exR).length : Int) != 4) = false by rw [b1]; rfl) ?_
 refine Jbn (show Jdc (.pair (.int .i64) (.pair (.int .i64) (.pair (.int .i64) .unit))) (Ku2 exL [] exR) (3, (1, (9, ()))) = true by rw [n2]; rfl) ?_
 refine Jbn (show ((Ku2 exL exK exR).1 == 4) = true by rw [k2]; rfl) ?_
 refine Jbn (show decide ((0 : Int) < ((Jtl exL [] exR).length : Int)) = true by rw [a1]; rfl) ?_
 refine Jbn (show (((Jtl exL [] exR).getD 0 (0, (0, ([], ())))).2.1 == 1) = true by rw [a2]; rfl) ?_
 refine Jbn (show decide ((0 : Int) < ((Jtl exL [] exR).length : Int)) = true by rw [a1]; rfl) ?_
 refine Jbn (show ((((Jtl exL [] exR).getD 0 (0, (0, ([], ())))).2.2.1.length : Int) == 1) = true by rw [a3]; rfl) ?_
 refine Jbn (show decide ((2 : Int) < ((Jtl exL [] exR).length : Int)) = true by rw [a1]; rfl) ?_
 refine Jbn (show (((Jtl exL [] exR).getD 2 (0, (0, ([], ())))).2.1 == 2) = true by rw [a4]; rfl) ?_
 refine Jbn (show decide ((0 : Int) < ((Jtl exL exK exR).length : Int)) = true by rw [b1]; rfl) ?_
 exact congrArg ret (show ((((Jtl exL exK exR).getD 0 (0, (0, ([], ())))).2.2.1.length : Int) == 2) = true by rw [b3]; rfl)⟩
end Go.AI
