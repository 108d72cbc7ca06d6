/- Texts of the proof, joined: TransP5. Names of our own are shortened by program; the long ones stand in wip/. -/
import Derived.Test.YtnmidfcefljafaaGreatQsG
import Derived.Test.YtnmidfcefljafaaGreatQsTransP2
import Derived.Test.YtnmidfcefljafaaGreatQsLogP7
namespace Go.AI
open Go
theorem K6w (d : DK) : (opB d).length ≤ d.1.length := by
 unfold opB
 split
 ·have := (Kgq (Jut d).tail 1).2
  have h2 := Jyc d
  rw [List.length_tail] at this; omega
 ·exact Nat.zero_le _
def repK {X : Type} (ret : Jf5 → List (List Rec) → Int → X) (l : Jf5) (x : List (List Rec) × Int) : X := if x.2 = 0 then ret l x.1 0 else ret Kr0 [] x.2
theorem Kb9 {X : Type} (ret : Jf5 → List (List Rec) → Int → X) (l : Jf5) {e : Int} (h : e ≠ 0) : repK ret l ([], e) = ret Kr0 [] e := if_neg h
theorem J3c (i : Int) (b : Bys) : unB [] i b = Kkw b := if_pos rfl
theorem Kgu {key : Bys} (h : key ≠ []) {i : Int} {b : Bys} (h2 : Kai key i b = 0) : unB key i b = Kkw (K3s key i b) := by unfold unB; rw [if_neg h, if_pos h2]
theorem Kx7 {key : Bys} (h : key ≠ []) {i : Int} {b : Bys} (h2 : Kai key i b ≠ 0) : unB key i b = ([], Kai key i b) := by unfold unB; rw [if_neg h, if_neg h2]
theorem Kma {key : Bys} {i : Int} {b : Bys} {bs : List Bys} {out : List (List Rec)} (h : (unB key i b).2 = 0) : Kfl key i (b :: bs) out = Kfl key (i + 1) bs (out ++ [(unB key i b).1]) := by rw [Kfl, if_pos h]
theorem Kca {key : Bys} {i : Int} {b : Bys} {bs : List Bys} {out : List (List Rec)} (h : (unB key i b).2 ≠ 0) : Kfl key i (b :: bs) out = ([], (unB key i b).2) := by rw [Kfl, if_neg h]
theorem Kqo {X : Type} (F : Nat) (fail : X) (ret : Jf5 → List (List Rec) → Int → X) (ex0 ex1 : List Bys → Int → Int → Bys → Jf5 → Int → List (List Rec) → Bys → Jf5 → X) (h0 : ∀ p a i k s e out k2 l, ex0 p a i k s e out k2 l = ret s [] e) (h1 : ∀ p a i k s e out k2 l, ex1 p a i k s e out k2 l = ret l out 0)
  (p : List Bys) (hp : p.length ≤ 1000000) (key k2 : Bys) (l s4 : Jf5) (s6 : Int) : ∀ (j m i : Nat) (out : List (List Rec)), i + j = p.length → j ≤ m → out.length ≤ i →
  Jgj F fail ex0 ex1 (m + 1) p (p.length : Nat) i k2 s4 s6 out key l = repK ret l (Kfl key ((i : Int) + 1) (p.drop i) out)
 | 0, m, i, out, hi, _, _ => by
  rw [Jgj, Jr8, Jab (ff (by omega)), h1, List.drop_eq_nil_of_le (by omega), Kfl]; rfl
 | j + 1, 0, i, _, _, hm, _ => absurd hm (by omega)
 | j + 1, m + 1, i, out, hi, hm, ho => by
  have ih := fun x => Kqo F fail ret ex0 ex1 h0 h1 p hp key k2 l s4 s6 j m (i + 1) (out ++ [x]) (by omega) (by omega) (by rw [List.length_append, List.length_singleton]; omega)
  have hbig : ∀ x : List Rec, decide ((out ++ [x]).length ≤ big) = true := fun x => Jds (by rw [List.length_append, List.length_singleton]; omega)
  rw [Jgj, Jr8, Int.toNat_natCast, Jar (by omega) (by omega), Jaa (tt (by omega)), Jaa (tt2 (by omega) (by omega)), Jcz ([] : Bys) (show i < p.length by omega)]
  rw [← Jwc] at ih
  rw [Jwc]
  rw [Jwc] at ih
  generalize p.getD i [] = b
  by_cases ck : key = []
  ·subst ck
   rw [Jab (ff (by simp)), Jaa (c := Jiw b) rfl, show Jej b = (Kkw b).2 from rfl, show Jei b = (Kkw b).1 from rfl]
   by_cases c : (Kkw b).2 = 0
   ·rw [Jab (Jhl c), Jaa (hbig _), Kma (by rw [J3c]; exact c), J3c]
    exact ih _
   ·rw [Jaa (Jkp c), h0, Kca (by rw [J3c]; exact c), J3c, Kb9 _ _ c]; rfl
  ·have hk : 0 < key.length := List.length_pos_iff.2 ck
   rw [Jaa (tt (by omega)), Jaa (c := Jx0 _ _ _) rfl, show ∀ n, Jji key n b = Kai key n b from fun _ => rfl, show ∀ n, Jhq key n b = K3s key n b from fun _ => rfl]
   by_cases c : Kai key ((i + 1 : Nat) : Int) b = 0
   ·rw [Jaa (Jl7 c), Jaa (c := Jiw _) rfl, show ∀ x, Jej x = (Kkw x).2 from fun _ => rfl, show ∀ x, Jei x = (Kkw x).1 from fun _ => rfl]
    by_cases c2 : (Kkw (K3s key ((i + 1 : Nat) : Int) b)).2 = 0
    ·rw [Jab (Jhl c2), Jaa (hbig _), Kma (by rw [Kgu ck c]; exact c2), Kgu ck c]
     exact ih _
    ·rw [Jaa (Jkp c2), h0, Kca (by rw [Kgu ck c]; exact c2), Kgu ck c, Kb9 _ _ c2]; rfl
   ·rw [Jab (Jpi c), Jaa (Jkp c), h0, Kca (by rw [Kx7 ck c]; exact c), Kx7 ck c, Kb9 _ _ c]; rfl
theorem K6x {d : DK} (h : opE d ≠ 0) (key : Bys) : Kpm d key = opE d ∧ Kt3 d key = Kr0 ∧ K0j d key = [] := by
 have e : Kpm d key = opE d := if_neg h
 exact ⟨e, if_neg (by rw [e]; exact h), if_neg (by rw [e]; exact h)⟩
theorem K2q {d : DK} (h : opE d = 0) {key : Bys} (hk : key.length > 64) : Kpm d key = 1 ∧ Kt3 d key = Kr0 ∧ K0j d key = [] := by
 have e : Kpm d key = 1 := by unfold Kpm; rw [if_pos h, if_pos hk]
 exact ⟨e, if_neg (by rw [e]; decide), if_neg (by rw [e]; decide)⟩
theorem Kx8 {d : DK} (h : opE d = 0) {key : Bys} (hk : ¬ key.length > 64) : Kpm d key = (Kfl key 1 (opB d) []).2 := by unfold Kpm; rw [if_pos h, if_neg hk]
theorem K6y {X : Type} (ret : Jf5 → List (List Rec) → Int → X) {d : DK} (h : opE d = 0) {key : Bys} (hk : ¬ key.length > 64) : repK ret (opL d) (Kfl key 1 (opB d) []) = ret (Kt3 d key) (K0j d key) (Kpm d key) := by
 have e := Kx8 h hk
 unfold repK
 by_cases c : (Kfl key 1 (opB d) []).2 = 0
 ·rw [if_pos c]
  have e2 : Kt3 d key = opL d := if_pos (by rw [e]; exact c)
  have e3 : K0j d key = (Kfl key 1 (opB d) []).1 := if_pos (by rw [e]; exact c)
  rw [e2, e3, e, c]
 ·rw [if_neg c]
  have e2 : Kt3 d key = Kr0 := if_neg (by rw [e]; exact c)
  have e3 : K0j d key = [] := if_neg (by rw [e]; exact c)
  rw [e2, e3, e]
theorem Kcb (d : DK) (key : Bys) (h : Jkv d key = true) : ∃ F, ∀ {X : Type} (fail : X) (ret : Jf5 → List (List Rec) → Int → X), Klc F d key fail ret = ret (Jbt d key) (Jbk d key) (Jic d key) := ⟨(opB d).length + 1, fun fail ret => by
 have hlen := K6w d
 have hs : d.1.length ≤ 1000000 := by
  have h := h
  unfold Jkv Ji7 at h
  rw [Bool.and_eq_true] at h
  exact (Jen.1 h.1).1
 unfold Klc Jbt Jbk Jic
 rw [Jaa (c := Ji7 d) h, show Jlw d = opE d from rfl, show Jlv d = opB d from rfl, show Jnz d = opL d from rfl]
 by_cases c : opE d = 0
 ·rw [Jab (Jhl c)]
  by_cases c2 : (key.length : Int) > 64
  ·obtain ⟨e1, e2, e3⟩ := K2q (key := key) c (by omega)
   rw [Jaa (tt c2), e1, e2, e3]; rfl
  ·rw [Jab (ff c2)]
   refine (Kqo ((opB d).length + 1) fail ret _ _ (fun _ _ _ _ _ _ _ _ _ => rfl) (fun _ _ _ _ _ _ _ _ _ => rfl) (opB d) (by omega) key key (opL d) _ 0 (opB d).length (opB d).length 0 [] (by omega) (by omega) (by simp)).trans ?_
   rw [List.drop_zero]
   exact K6y ret c (by omega)
 ·obtain ⟨e1, e2, e3⟩ := K6x c key
  rw [Jaa (Jkp c), e1, e2, e3]; rfl⟩
end Go.AI
