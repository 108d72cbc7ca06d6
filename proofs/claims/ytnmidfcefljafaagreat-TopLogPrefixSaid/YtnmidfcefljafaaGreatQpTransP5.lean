/- Texts of the proof, joined: TransP5. Names of our own are shortened by program; the long ones stand in wip/. -/
import Derived.Test.YtnmidfcefljafaaGreatQpG
import Derived.Test.YtnmidfcefljafaaGreatQpTransP2
import Derived.Test.YtnmidfcefljafaaGreatQpLogP7
namespace Go.AI
open Go
theorem Kz5 (d : DK) : (opB d).length ≤ d.1.length := by
 unfold opB
 split
 ·have := (Khv (Ju8 d).tail 1).2
  have h2 := Jyq d
  rw [List.length_tail] at this; omega
 ·exact Nat.zero_le _
def repK {X : Type} (ret : Jf9 → List (List Rec) → Int → X) (l : Jf9) (x : List (List Rec) × Int) : X := if x.2 = 0 then ret l x.1 0 else ret Ktv [] x.2
theorem Kdj {X : Type} (ret : Jf9 → List (List Rec) → Int → X) (l : Jf9) {e : Int} (h : e ≠ 0) : repK ret l ([], e) = ret Ktv [] e := if_neg h
theorem J4d (i : Int) (b : Bys) : unB [] i b = Kgq b := if_pos rfl
theorem Kh2 {key : Bys} (h : key ≠ []) {i : Int} {b : Bys} (h2 : Kbs key i b = 0) : unB key i b = Kgq (K5r key i b) := by unfold unB; rw [if_neg h, if_pos h2]
theorem Kz6 {key : Bys} (h : key ≠ []) {i : Int} {b : Bys} (h2 : Kbs key i b ≠ 0) : unB key i b = ([], Kbs key i b) := by unfold unB; rw [if_neg h, if_neg h2]
theorem Kdk {key : Bys} {i : Int} {b : Bys} {bs : List Bys} {out : List (List Rec)} (h : (unB key i b).2 = 0) : J87 key i (b :: bs) out = J87 key (i + 1) bs (out ++ [(unB key i b).1]) := by rw [J87, if_pos h]
theorem J2g {key : Bys} {i : Int} {b : Bys} {bs : List Bys} {out : List (List Rec)} (h : (unB key i b).2 ≠ 0) : J87 key i (b :: bs) out = ([], (unB key i b).2) := by rw [J87, if_neg h]
theorem Ksc {X : Type} (F : Nat) (fail : X) (ret : Jf9 → List (List Rec) → Int → X) (ex0 ex1 : List Bys → Int → Int → Bys → Jf9 → Int → List (List Rec) → Bys → Jf9 → X) (h0 : ∀ p a i k s e out k2 l, ex0 p a i k s e out k2 l = ret s [] e) (h1 : ∀ p a i k s e out k2 l, ex1 p a i k s e out k2 l = ret l out 0)
  (p : List Bys) (hp : p.length ≤ 1000000) (key k2 : Bys) (l s4 : Jf9) (s6 : Int) : ∀ (j m i : Nat) (out : List (List Rec)), i + j = p.length → j ≤ m → out.length ≤ i →
  Jgl F fail ex0 ex1 (m + 1) p (p.length : Nat) i k2 s4 s6 out key l = repK ret l (J87 key ((i : Int) + 1) (p.drop i) out)
 | 0, m, i, out, hi, _, _ => by
  rw [Jgl, Jsm, Jab (ff (by omega)), h1, List.drop_eq_nil_of_le (by omega), J87]; rfl
 | j + 1, 0, i, _, _, hm, _ => absurd hm (by omega)
 | j + 1, m + 1, i, out, hi, hm, ho => by
  have ih := fun x => Ksc F fail ret ex0 ex1 h0 h1 p hp key k2 l s4 s6 j m (i + 1) (out ++ [x]) (by omega) (by omega) (by rw [List.length_append, List.length_singleton]; omega)
  have hbig : ∀ x : List Rec, decide ((out ++ [x]).length ≤ big) = true := fun x => Jea (by rw [List.length_append, List.length_singleton]; omega)
  rw [Jgl, Jsm, Int.toNat_natCast, Jao (by omega) (by omega), Jaa (tt (by omega)), Jaa (tt2 (by omega) (by omega)), Jcx ([] : Bys) (show i < p.length by omega)]
  rw [← Jte] at ih
  rw [Jte]
  rw [Jte] at ih
  generalize p.getD i [] = b
  by_cases ck : key = []
  ·subst ck
   rw [Jab (ff (by simp)), Jaa (c := Ji0 b) rfl, show Jem b = (Kgq b).2 from rfl, show Jel b = (Kgq b).1 from rfl]
   by_cases c : (Kgq b).2 = 0
   ·rw [Jab (Jgi c), Jaa (hbig _), Kdk (by rw [J4d]; exact c), J4d]
    exact ih _
   ·rw [Jaa (Jh9 c), h0, J2g (by rw [J4d]; exact c), J4d, Kdj _ _ c]; rfl
  ·have hk : 0 < key.length := List.length_pos_iff.2 ck
   rw [Jaa (tt (by omega)), Jaa (c := Jyg _ _ _) rfl, show ∀ n, Jjr key n b = Kbs key n b from fun _ => rfl, show ∀ n, Jhq key n b = K5r key n b from fun _ => rfl]
   by_cases c : Kbs key ((i + 1 : Nat) : Int) b = 0
   ·rw [Jaa (Jmg c), Jaa (c := Ji0 _) rfl, show ∀ x, Jem x = (Kgq x).2 from fun _ => rfl, show ∀ x, Jel x = (Kgq x).1 from fun _ => rfl]
    by_cases c2 : (Kgq (K5r key ((i + 1 : Nat) : Int) b)).2 = 0
    ·rw [Jab (Jgi c2), Jaa (hbig _), Kdk (by rw [Kh2 ck c]; exact c2), Kh2 ck c]
     exact ih _
    ·rw [Jaa (Jh9 c2), h0, J2g (by rw [Kh2 ck c]; exact c2), Kh2 ck c, Kdj _ _ c2]; rfl
   ·rw [Jab (Jmt c), Jaa (Jh9 c), h0, J2g (by rw [Kz6 ck c]; exact c), Kz6 ck c, Kdj _ _ c]; rfl
theorem K8v {d : DK} (h : opE d ≠ 0) (key : Bys) : J63 d key = opE d ∧ Jl6 d key = Ktv ∧ Js2 d key = [] := by
 have e : J63 d key = opE d := if_neg h
 exact ⟨e, if_neg (by rw [e]; exact h), if_neg (by rw [e]; exact h)⟩
theorem K4r {d : DK} (h : opE d = 0) {key : Bys} (hk : key.length > 64) : J63 d key = 1 ∧ Jl6 d key = Ktv ∧ Js2 d key = [] := by
 have e : J63 d key = 1 := by unfold J63; rw [if_pos h, if_pos hk]
 exact ⟨e, if_neg (by rw [e]; decide), if_neg (by rw [e]; decide)⟩
theorem Kz7 {d : DK} (h : opE d = 0) {key : Bys} (hk : ¬ key.length > 64) : J63 d key = (J87 key 1 (opB d) []).2 := by unfold J63; rw [if_pos h, if_neg hk]
theorem K8w {X : Type} (ret : Jf9 → List (List Rec) → Int → X) {d : DK} (h : opE d = 0) {key : Bys} (hk : ¬ key.length > 64) : repK ret (opL d) (J87 key 1 (opB d) []) = ret (Jl6 d key) (Js2 d key) (J63 d key) := by
 have e := Kz7 h hk
 unfold repK
 by_cases c : (J87 key 1 (opB d) []).2 = 0
 ·rw [if_pos c]
  have e2 : Jl6 d key = opL d := if_pos (by rw [e]; exact c)
  have e3 : Js2 d key = (J87 key 1 (opB d) []).1 := if_pos (by rw [e]; exact c)
  rw [e2, e3, e, c]
 ·rw [if_neg c]
  have e2 : Jl6 d key = Ktv := if_neg (by rw [e]; exact c)
  have e3 : Js2 d key = [] := if_neg (by rw [e]; exact c)
  rw [e2, e3, e]
theorem Kdl (d : DK) (key : Bys) (h : Ji1 d key = true) : ∃ F, ∀ {X : Type} (fail : X) (ret : Jf9 → List (List Rec) → Int → X), Kmm F d key fail ret = ret (Jb5 d key) (Jbg d key) (Jg6 d key) := ⟨(opB d).length + 1, fun fail ret => by
 have hlen := Kz5 d
 have hs : d.1.length ≤ 1000000 := by
  have h := h
  unfold Ji1 Jeu at h
  rw [Bool.and_eq_true] at h
  exact (Jdq.1 h.1).1
 unfold Kmm Jb5 Jbg Jg6
 rw [Jaa (c := Jeu d) h, show Jl4 d = opE d from rfl, show Jl3 d = opB d from rfl, show Jod d = opL d from rfl]
 by_cases c : opE d = 0
 ·rw [Jab (Jgi c)]
  by_cases c2 : (key.length : Int) > 64
  ·obtain ⟨e1, e2, e3⟩ := K4r (key := key) c (by omega)
   rw [Jaa (tt c2), e1, e2, e3]; rfl
  ·rw [Jab (ff c2)]
   refine (Ksc ((opB d).length + 1) fail ret _ _ (fun _ _ _ _ _ _ _ _ _ => rfl) (fun _ _ _ _ _ _ _ _ _ => rfl) (opB d) (by omega) key key (opL d) _ 0 (opB d).length (opB d).length 0 [] (by omega) (by omega) (by simp)).trans ?_
   rw [List.drop_zero]
   exact K8w ret c (by omega)
 ·obtain ⟨e1, e2, e3⟩ := K8v c key
  rw [Jaa (Jh9 c), e1, e2, e3]; rfl⟩
theorem Kh3 : ∀ (n : Nat) (b : List UInt8) (out : List Rec), (Kx4 n b out).1.length ≤ out.length + n
 | 0, b, out => by
  rw [Kx4]
  split
  ·exact Nat.le_refl _
  ·exact Nat.zero_le _
 | n + 1, b, out => by
  rw [Kx4]
  split
  ·exact Nat.zero_le _
  split
  ·split
   ·exact Nat.zero_le _
   ·have := Kh3 n (Jbm (Jbt b).2.1).2.1 (out ++ [((Jbt b).1, ((Jbm (Jbt b).2.1).1, ()))])
    rw [List.length_append, List.length_singleton] at this; omega
  ·exact Nat.zero_le _
theorem Ksd (b : List UInt8) : (Kgq b).1.length ≤ 1024 := by
 unfold Kgq
 split
 ·exact Nat.zero_le _
 split
 ·exact Nat.zero_le _
 split
 ·exact Nat.zero_le _
 ·have := Kh3 (Jbt b).1.toNat (Jbt b).2.1 []
  rw [List.length_nil] at this; omega
theorem K8x (key : Bys) (i : Int) (b : Bys) : (unB key i b).1.length ≤ 1024 := by
 unfold unB
 split
 ·exact Ksd _
 split
 ·exact Ksd _
 ·exact Nat.zero_le _
theorem Kse (key : Bys) : ∀ (bs : List Bys) (i : Int) (out : List (List Rec)), (∀ x, x ∈ out → Kl6 x = true) → (∀ x, x ∈ (J87 key i bs out).1 → Kl6 x = true) ∧ (J87 key i bs out).1.length ≤ out.length + bs.length
 | [], i, out, h => by rw [J87]; exact ⟨h, Nat.le_refl _⟩
 | b :: bs, i, out, h => by
  by_cases c : (unB key i b).2 = 0
  ·rw [Kdk c]
   obtain ⟨h1, h2⟩ := Kse key bs (i + 1) (out ++ [(unB key i b).1]) fun x hx => by
    rcases List.mem_append.1 hx with hx | hx
    ·exact h x hx
    ·rw [List.mem_singleton.1 hx]
     have := K8x key i b
     exact tt (by omega)
   refine ⟨h1, ?_⟩
   rw [List.length_append, List.length_singleton] at h2
   rw [List.length_cons]; omega
  ·rw [J2g c]
   exact ⟨(fun _ hx => nomatch hx), Nat.zero_le _⟩
theorem Ksf (d : DK) (key : Bys) (h : d.1.length ≤ 1000000) : Jva (Js2 d key) = true := by
 have hl := Kz5 d
 unfold Js2
 split
 ·obtain ⟨h1, h2⟩ := Kse key (opB d) 1 [] fun _ hx => nomatch hx
  rw [List.length_nil] at h2
  unfold Jva
  rw [Bool.and_eq_true, decide_eq_true_eq]
  exact ⟨by omega, List.all_eq_true.2 h1⟩
 ·rfl
end Go.AI
