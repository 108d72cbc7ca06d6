/- Texts of the proof, joined: TransP5. Names of our own are shortened by program; the long ones stand in wip/. -/
import Derived.Test.YtcdajbmgoafnkaaGreatQrG
import Derived.Test.YtcdajbmgoafnkaaGreatQrTransP2
import Derived.Test.YtcdajbmgoafnkaaGreatQrLogP7
namespace Go.AI
open Go
theorem Kz0 (d : DK) : (opB d).length ≤ d.1.length := by
 unfold opB
 split
 ·have := (Kbq (Jq9 d).tail 1).2
  have h2 := Jzq d
  rw [List.length_tail] at this; omega
 ·exact Nat.zero_le _
def Qpm {X : Type} (ret : Jic → List (List Rec) → Int → X) (l : Jic) (x : List (List Rec) × Int) : X := if x.2 = 0 then ret l x.1 0 else ret K9q [] x.2
theorem Jxs {X : Type} (ret : Jic → List (List Rec) → Int → X) (l : Jic) {e : Int} (h : e ≠ 0) : Qpm ret l ([], e) = ret K9q [] e := if_neg h
theorem Juw (i : Int) (b : Bys) : unB [] i b = J80 b := if_pos rfl
theorem J6k {key : Bys} (h : key ≠ []) {i : Int} {b : Bys} (h2 : Klp key i b = 0) : unB key i b = J80 (Qg3 key i b) := by unfold unB; rw [if_neg h, if_pos h2]
theorem Knm {key : Bys} (h : key ≠ []) {i : Int} {b : Bys} (h2 : Klp key i b ≠ 0) : unB key i b = ([], Klp key i b) := by unfold unB; rw [if_neg h, if_neg h2]
theorem Kbr {key : Bys} {i : Int} {b : Bys} {bs : List Bys} {out : List (List Rec)} (h : (unB key i b).2 = 0) : Klv key i (b :: bs) out = Klv key (i + 1) bs (out ++ [(unB key i b).1]) := by rw [Klv, if_pos h]
theorem Jsm {key : Bys} {i : Int} {b : Bys} {bs : List Bys} {out : List (List Rec)} (h : (unB key i b).2 ≠ 0) : Klv key i (b :: bs) out = ([], (unB key i b).2) := by rw [Klv, if_neg h]
theorem K5b {X : Type} (F : Nat) (fail : X) (ret : Jic → List (List Rec) → Int → X) (ex0 ex1 : List Bys → Int → Int → Bys → Jic → Int → List (List Rec) → Bys → Jic → X) (h0 : ∀ p a i k s e out k2 l, ex0 p a i k s e out k2 l = ret s [] e) (h1 : ∀ p a i k s e out k2 l, ex1 p a i k s e out k2 l = ret l out 0)
  (p : List Bys) (hp : p.length ≤ 1000000) (key k2 : Bys) (l s4 : Jic) (s6 : Int) : ∀ (j m i : Nat) (out : List (List Rec)), i + j = p.length → j ≤ m → out.length ≤ i →
  Jif F fail ex0 ex1 (m + 1) p (p.length : Nat) i k2 s4 s6 out key l = Qpm ret l (Klv key ((i : Int) + 1) (p.drop i) out)
 | 0, m, i, out, hi, _, _ => by
  rw [Jif, Jxi, Jab (ff (by omega)), h1, List.drop_eq_nil_of_le (by omega), Klv]; rfl
 | j + 1, 0, i, _, _, hm, _ => absurd hm (by omega)
 | j + 1, m + 1, i, out, hi, hm, ho => by
  have ih := fun x => K5b F fail ret ex0 ex1 h0 h1 p hp key k2 l s4 s6 j m (i + 1) (out ++ [x]) (by omega) (by omega) (by rw [List.length_append, List.length_singleton]; omega)
  have hbig : ∀ x : List Rec, decide ((out ++ [x]).length ≤ big) = true := fun x => Jch (by rw [List.length_append, List.length_singleton]; omega)
  rw [Jif, Jxi, Int.toNat_natCast, Jai (by omega) (by omega), Jaa (tt (by omega)), Jaa (tt2 (by omega) (by omega)), Jdj ([] : Bys) (show i < p.length by omega)]
  rw [← J2d] at ih
  rw [J2d]
  rw [J2d] at ih
  generalize p.getD i [] = b
  by_cases ck : key = []
  ·subst ck
   rw [Jab (ff (by simp)), Jaa (c := Jle b) rfl, show Jfk b = (J80 b).2 from rfl, show Jfj b = (J80 b).1 from rfl]
   by_cases c : (J80 b).2 = 0
   ·rw [Jab (Jgm c), Jaa (hbig _), Kbr (by rw [Juw]; exact c), Juw]
    exact ih _
   ·rw [Jaa (Jhl c), h0, Jsm (by rw [Juw]; exact c), Juw, Jxs _ _ c]; rfl
  ·have hk : 0 < key.length := List.length_pos_iff.2 ck
   rw [Jaa (tt (by omega)), Jaa (c := J4a _ _ _) rfl, show ∀ n, Jl5 key n b = Klp key n b from fun _ => rfl, show ∀ n, Jjn key n b = Qg3 key n b from fun _ => rfl]
   by_cases c : Klp key ((i + 1 : Nat) : Int) b = 0
   ·rw [Jaa (Jk8 c), Jaa (c := Jle _) rfl, show ∀ x, Jfk x = (J80 x).2 from fun _ => rfl, show ∀ x, Jfj x = (J80 x).1 from fun _ => rfl]
    by_cases c2 : (J80 (Qg3 key ((i + 1 : Nat) : Int) b)).2 = 0
    ·rw [Jab (Jgm c2), Jaa (hbig _), Kbr (by rw [J6k ck c]; exact c2), J6k ck c]
     exact ih _
    ·rw [Jaa (Jhl c2), h0, Jsm (by rw [J6k ck c]; exact c2), J6k ck c, Jxs _ _ c2]; rfl
   ·rw [Jab (Jl3 c), Jaa (Jhl c), h0, Jsm (by rw [Knm ck c]; exact c), Knm ck c, Jxs _ _ c]; rfl
theorem Qea {d : DK} (h : opE d ≠ 0) (key : Bys) : K37 d key = opE d ∧ Qly d key = K9q ∧ K63 d key = [] := by
 have e : K37 d key = opE d := if_neg h
 exact ⟨e, if_neg (by rw [e]; exact h), if_neg (by rw [e]; exact h)⟩
theorem K5c {d : DK} (h : opE d = 0) {key : Bys} (hk : key.length > 64) : K37 d key = 1 ∧ Qly d key = K9q ∧ K63 d key = [] := by
 have e : K37 d key = 1 := by unfold K37; rw [if_pos h, if_pos hk]
 exact ⟨e, if_neg (by rw [e]; decide), if_neg (by rw [e]; decide)⟩
theorem Qnm {d : DK} (h : opE d = 0) {key : Bys} (hk : ¬ key.length > 64) : K37 d key = (Klv key 1 (opB d) []).2 := by unfold K37; rw [if_pos h, if_neg hk]
theorem Qeb {X : Type} (ret : Jic → List (List Rec) → Int → X) {d : DK} (h : opE d = 0) {key : Bys} (hk : ¬ key.length > 64) : Qpm ret (opL d) (Klv key 1 (opB d) []) = ret (Qly d key) (K63 d key) (K37 d key) := by
 have e := Qnm h hk
 unfold Qpm
 by_cases c : (Klv key 1 (opB d) []).2 = 0
 ·rw [if_pos c]
  have e2 : Qly d key = opL d := if_pos (by rw [e]; exact c)
  have e3 : K63 d key = (Klv key 1 (opB d) []).1 := if_pos (by rw [e]; exact c)
  rw [e2, e3, e, c]
 ·rw [if_neg c]
  have e2 : Qly d key = K9q := if_neg (by rw [e]; exact c)
  have e3 : K63 d key = [] := if_neg (by rw [e]; exact c)
  rw [e2, e3, e]
theorem Knn (d : DK) (key : Bys) (h : J1s d key = true) : ∃ F, ∀ {X : Type} (fail : X) (ret : Jic → List (List Rec) → Int → X), Kyy F d key fail ret = ret (Jwr d key) (Jqg d key) (Jws d key) := ⟨(opB d).length + 1, fun fail ret => by
 have hlen := Kz0 d
 have hs : d.1.length ≤ 1000000 := by
  have h := h
  unfold J1s Jj9 at h
  rw [Bool.and_eq_true] at h
  exact (Jgb.1 h.1).1
 unfold Kyy Jwr Jqg Jws
 rw [Jaa (c := Jj9 d) h, show Jo3 d = opE d from rfl, show Jo2 d = opB d from rfl, show Jry d = opL d from rfl]
 by_cases c : opE d = 0
 ·rw [Jab (Jgm c)]
  by_cases c2 : (key.length : Int) > 64
  ·obtain ⟨e1, e2, e3⟩ := K5c (key := key) c (by omega)
   rw [Jaa (tt c2), e1, e2, e3]; rfl
  ·rw [Jab (ff c2)]
   refine (K5b ((opB d).length + 1) fail ret _ _ (fun _ _ _ _ _ _ _ _ _ => rfl) (fun _ _ _ _ _ _ _ _ _ => rfl) (opB d) (by omega) key key (opL d) _ 0 (opB d).length (opB d).length 0 [] (by omega) (by omega) (by simp)).trans ?_
   rw [List.drop_zero]
   exact Qeb ret c (by omega)
 ·obtain ⟨e1, e2, e3⟩ := Qea c key
  rw [Jaa (Jhl c), e1, e2, e3]; rfl⟩
theorem Kst : ∀ (n : Nat) (b : List UInt8) (out : List Rec), (K62 n b out).1.length ≤ out.length + n
 | 0, b, out => by
  rw [K62]
  split
  ·exact Nat.le_refl _
  ·exact Nat.zero_le _
 | n + 1, b, out => by
  rw [K62]
  split
  ·exact Nat.zero_le _
  split
  ·split
   ·exact Nat.zero_le _
   ·have := Kst n (Jbe (Ja9 b).2.1).2.1 (out ++ [((Ja9 b).1, ((Jbe (Ja9 b).2.1).1, ()))])
    rw [List.length_append, List.length_singleton] at this; omega
  ·exact Nat.zero_le _
theorem K5d (b : List UInt8) : (J80 b).1.length ≤ 1024 := by
 unfold J80
 split
 ·exact Nat.zero_le _
 split
 ·exact Nat.zero_le _
 split
 ·exact Nat.zero_le _
 ·have := Kst (Ja9 b).1.toNat (Ja9 b).2.1 []
  rw [List.length_nil] at this; omega
theorem Qnn (key : Bys) (i : Int) (b : Bys) : (unB key i b).1.length ≤ 1024 := by
 unfold unB
 split
 ·exact K5d _
 split
 ·exact K5d _
 ·exact Nat.zero_le _
theorem K5e (key : Bys) : ∀ (bs : List Bys) (i : Int) (out : List (List Rec)), (∀ x, x ∈ out → Qg4 x = true) → (∀ x, x ∈ (Klv key i bs out).1 → Qg4 x = true) ∧ (Klv key i bs out).1.length ≤ out.length + bs.length
 | [], i, out, h => by rw [Klv]; exact ⟨h, Nat.le_refl _⟩
 | b :: bs, i, out, h => by
  by_cases c : (unB key i b).2 = 0
  ·rw [Kbr c]
   obtain ⟨h1, h2⟩ := K5e key bs (i + 1) (out ++ [(unB key i b).1]) fun x hx => by
    rcases List.mem_append.1 hx with hx | hx
    ·exact h x hx
    ·rw [List.mem_singleton.1 hx]
     have := Qnn key i b
     exact tt (by omega)
   refine ⟨h1, ?_⟩
   rw [List.length_append, List.length_singleton] at h2
   rw [List.length_cons]; omega
  ·rw [Jsm c]
   exact ⟨(fun _ hx => nomatch hx), Nat.zero_le _⟩
theorem Qje (d : DK) (key : Bys) (h : d.1.length ≤ 1000000) : Qig (K63 d key) = true := by
 have hl := Kz0 d
 unfold K63
 split
 ·obtain ⟨h1, h2⟩ := K5e key (opB d) 1 [] fun _ hx => nomatch hx
  rw [List.length_nil] at h2
  unfold Qig
  rw [Bool.and_eq_true, decide_eq_true_eq]
  exact ⟨by omega, List.all_eq_true.2 h1⟩
 ·rfl
end Go.AI
