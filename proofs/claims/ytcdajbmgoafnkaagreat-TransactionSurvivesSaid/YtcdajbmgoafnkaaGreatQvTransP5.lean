/- Texts of the proof, joined: TransP5. Names of our own are shortened by program; the long ones stand in wip/. -/
import Derived.Test.YtcdajbmgoafnkaaGreatQvG
import Derived.Test.YtcdajbmgoafnkaaGreatQvTransP2
import Derived.Test.YtcdajbmgoafnkaaGreatQvLogP7
namespace Go.AI
open Go
theorem K8b (d : DK) : (opB d).length ≤ d.1.length := by
 unfold opB
 split
 ·have := (Khf (Jvi d).tail 1).2
  have h2 := Jyv d
  rw [List.length_tail] at this; omega
 ·exact Nat.zero_le _
def repK {X : Type} (ret : Jfp → List (List Rec) → Int → X) (l : Jfp) (x : List (List Rec) × Int) : X := if x.2 = 0 then ret l x.1 0 else ret Kqa [] x.2
theorem Kc3 {X : Type} (ret : Jfp → List (List Rec) → Int → X) (l : Jfp) {e : Int} (h : e ≠ 0) : repK ret l ([], e) = ret Kqa [] e := if_neg h
theorem J32 (i : Int) (b : Bys) : unB [] i b = Klj b := if_pos rfl
theorem Khk {key : Bys} (h : key ≠ []) {i : Int} {b : Bys} (h2 : Kbd key i b = 0) : unB key i b = Klj (K47 key i b) := by unfold unB; rw [if_neg h, if_pos h2]
theorem Kza {key : Bys} (h : key ≠ []) {i : Int} {b : Bys} (h2 : Kbd key i b ≠ 0) : unB key i b = ([], Kbd key i b) := by unfold unB; rw [if_neg h, if_neg h2]
theorem Kmx {key : Bys} {i : Int} {b : Bys} {bs : List Bys} {out : List (List Rec)} (h : (unB key i b).2 = 0) : Kga key i (b :: bs) out = Kga key (i + 1) bs (out ++ [(unB key i b).1]) := by rw [Kga, if_pos h]
theorem Kc4 {key : Bys} {i : Int} {b : Bys} {bs : List Bys} {out : List (List Rec)} (h : (unB key i b).2 ≠ 0) : Kga key i (b :: bs) out = ([], (unB key i b).2) := by rw [Kga, if_neg h]
theorem Krf {X : Type} (F : Nat) (fail : X) (ret : Jfp → List (List Rec) → Int → X) (ex0 ex1 : List Bys → Int → Int → Bys → Jfp → Int → List (List Rec) → Bys → Jfp → X) (h0 : ∀ p a i k s e out k2 l, ex0 p a i k s e out k2 l = ret s [] e) (h1 : ∀ p a i k s e out k2 l, ex1 p a i k s e out k2 l = ret l out 0)
  (p : List Bys) (hp : p.length ≤ 1000000) (key k2 : Bys) (l s4 : Jfp) (s6 : Int) : ∀ (j m i : Nat) (out : List (List Rec)), i + j = p.length → j ≤ m → out.length ≤ i →
  Jgv F fail ex0 ex1 (m + 1) p (p.length : Nat) i k2 s4 s6 out key l = repK ret l (Kga key ((i : Int) + 1) (p.drop i) out)
 | 0, m, i, out, hi, _, _ => by
  rw [Jgv, Jsr, Jab (ff (by omega)), h1, List.drop_eq_nil_of_le (by omega), Kga]; rfl
 | j + 1, 0, i, _, _, hm, _ => absurd hm (by omega)
 | j + 1, m + 1, i, out, hi, hm, ho => by
  have ih := fun x => Krf F fail ret ex0 ex1 h0 h1 p hp key k2 l s4 s6 j m (i + 1) (out ++ [x]) (by omega) (by omega) (by rw [List.length_append, List.length_singleton]; omega)
  have hbig : ∀ x : List Rec, decide ((out ++ [x]).length ≤ big) = true := fun x => Jem (by rw [List.length_append, List.length_singleton]; omega)
  rw [Jgv, Jsr, Int.toNat_natCast, Jam (by omega) (by omega), Jaa (tt (by omega)), Jaa (tt2 (by omega) (by omega)), Jcu ([] : Bys) (show i < p.length by omega)]
  rw [← Juu] at ih
  rw [Juu]
  rw [Juu] at ih
  generalize p.getD i [] = b
  by_cases ck : key = []
  ·subst ck
   rw [Jab (ff (by simp)), Jaa (c := Ji8 b) rfl, show Jey b = (Klj b).2 from rfl, show Jex b = (Klj b).1 from rfl]
   by_cases c : (Klj b).2 = 0
   ·rw [Jab (Jf8 c), Jaa (hbig _), Kmx (by rw [J32]; exact c), J32]
    exact ih _
   ·rw [Jaa (Jjj c), h0, Kc4 (by rw [J32]; exact c), J32, Kc3 _ _ c]; rfl
  ·have hk : 0 < key.length := List.length_pos_iff.2 ck
   rw [Jaa (tt (by omega)), Jaa (c := Jyl _ _ _) rfl, show ∀ n, Jjz key n b = Kbd key n b from fun _ => rfl, show ∀ n, Jh1 key n b = K47 key n b from fun _ => rfl]
   by_cases c : Kbd key ((i + 1 : Nat) : Int) b = 0
   ·rw [Jaa (Jju c), Jaa (c := Ji8 _) rfl, show ∀ x, Jey x = (Klj x).2 from fun _ => rfl, show ∀ x, Jex x = (Klj x).1 from fun _ => rfl]
    by_cases c2 : (Klj (K47 key ((i + 1 : Nat) : Int) b)).2 = 0
    ·rw [Jab (Jf8 c2), Jaa (hbig _), Kmx (by rw [Khk ck c]; exact c2), Khk ck c]
     exact ih _
    ·rw [Jaa (Jjj c2), h0, Kc4 (by rw [Khk ck c]; exact c2), Khk ck c, Kc3 _ _ c2]; rfl
   ·rw [Jab (Jjv c), Jaa (Jjj c), h0, Kc4 (by rw [Kza ck c]; exact c), Kza ck c, Kc3 _ _ c]; rfl
theorem K8c {d : DK} (h : opE d ≠ 0) (key : Bys) : Ks0 d key = opE d ∧ K5d d key = Kqa ∧ K5c d key = [] := by
 have e : Ks0 d key = opE d := if_neg h
 exact ⟨e, if_neg (by rw [e]; exact h), if_neg (by rw [e]; exact h)⟩
theorem K36 {d : DK} (h : opE d = 0) {key : Bys} (hk : key.length > 64) : Ks0 d key = 1 ∧ K5d d key = Kqa ∧ K5c d key = [] := by
 have e : Ks0 d key = 1 := by unfold Ks0; rw [if_pos h, if_pos hk]
 exact ⟨e, if_neg (by rw [e]; decide), if_neg (by rw [e]; decide)⟩
theorem Kzb {d : DK} (h : opE d = 0) {key : Bys} (hk : ¬ key.length > 64) : Ks0 d key = (Kga key 1 (opB d) []).2 := by unfold Ks0; rw [if_pos h, if_neg hk]
theorem K8d {X : Type} (ret : Jfp → List (List Rec) → Int → X) {d : DK} (h : opE d = 0) {key : Bys} (hk : ¬ key.length > 64) : repK ret (opL d) (Kga key 1 (opB d) []) = ret (K5d d key) (K5c d key) (Ks0 d key) := by
 have e := Kzb h hk
 unfold repK
 by_cases c : (Kga key 1 (opB d) []).2 = 0
 ·rw [if_pos c]
  have e2 : K5d d key = opL d := if_pos (by rw [e]; exact c)
  have e3 : K5c d key = (Kga key 1 (opB d) []).1 := if_pos (by rw [e]; exact c)
  rw [e2, e3, e, c]
 ·rw [if_neg c]
  have e2 : K5d d key = Kqa := if_neg (by rw [e]; exact c)
  have e3 : K5c d key = [] := if_neg (by rw [e]; exact c)
  rw [e2, e3, e]
theorem Kc5 (d : DK) (key : Bys) (h : Jqu d key = true) : ∃ F, ∀ {X : Type} (fail : X) (ret : Jfp → List (List Rec) → Int → X), Klz F d key fail ret = ret (Jkl d key) (Jm7 d key) (Jm8 d key) := ⟨(opB d).length + 1, fun fail ret => by
 have hlen := K8b d
 have hs : d.1.length ≤ 1000000 := by
  have h := h
  unfold Jqu Jjl at h
  rw [Bool.and_eq_true] at h
  exact (Jez.1 h.1).1
 unfold Klz Jkl Jm7 Jm8
 rw [Jaa (c := Jjl d) h, show Jme d = opE d from rfl, show Jmd d = opB d from rfl, show Joi d = opL d from rfl]
 by_cases c : opE d = 0
 ·rw [Jab (Jf8 c)]
  by_cases c2 : (key.length : Int) > 64
  ·obtain ⟨e1, e2, e3⟩ := K36 (key := key) c (by omega)
   rw [Jaa (tt c2), e1, e2, e3]; rfl
  ·rw [Jab (ff c2)]
   refine (Krf ((opB d).length + 1) fail ret _ _ (fun _ _ _ _ _ _ _ _ _ => rfl) (fun _ _ _ _ _ _ _ _ _ => rfl) (opB d) (by omega) key key (opL d) _ 0 (opB d).length (opB d).length 0 [] (by omega) (by omega) (by simp)).trans ?_
   rw [List.drop_zero]
   exact K8d ret c (by omega)
 ·obtain ⟨e1, e2, e3⟩ := K8c c key
  rw [Jaa (Jjj c), e1, e2, e3]; rfl⟩
end Go.AI
